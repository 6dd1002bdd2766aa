/-
 Parts of the proof, as merged from many texts: a machine over data, what the functions compute, plain laws.
-/
import Derived.Test.YtfgcpmeadeehhaaGreatPTD5
set_option linter.unusedSimpArgs false
set_option linter.unusedVariables false
namespace Go.AM
open Go Go.Proofs
def nodeB (p g : Gr) (acc : Mo → Bool) (Es : List Int) : Nat → List Int → Bool
 | 0, N => edgeB p g acc N p.edges.length Es
 | n + 1, N => if 0 ≤ N.getD (p.nodes.length - (n + 1)) 0 then nodeB p g acc Es n N
  else (List.range g.nodes.length).any fun k => decide (g.nodes.getD k 0 = p.nodes.getD (p.nodes.length - (n + 1)) 0) && !decide ((k : Int) ∈ N) && nodeB p g acc Es n (N.set (p.nodes.length - (n + 1)) k)
def QNd (b : Bool) (N Es : List Int) (kn ke : Nat) (box : Bxs) (nb : Nat) (tok : Tks) (nt : Nat) (v : AV) (m : AMem) : Prop :=
 v = B b ∧ ∃ N' E' : List Int, N'.length = N.length ∧ E'.length = Es.length ∧ (b = false → N' = N ∧ E' = Es) ∧ m = ⟨upd (upd box kn (some (rowsI N'))) ke (some (rowsI E')), nb, tok, nt⟩
theorem outI2 {box : Bxs} {kn ke base : Nat} {N' E' : List Int} {p q : Nat → Prop} : ∀ k rows, k < base → (upd (upd box kn (some (rowsI N'))) ke (some (rowsI E'))) k = some rows → box k = some rows ∨ ∀ r ∈ rows, ∀ x ∈ r, OkIn p q x := by
 intro k rows hk hr
 rcases outI (p := p) (q := q) (base := base) k rows hk hr with h | h
 ·exact outI k rows hk h
 ·exact .inr h
theorem ExH.setN {p g : Gr} {f : FuncId} {caps : List AV} {kx kn ke : Nat} {E0 : Bxs} {N N' Es : List Int} {box : Bxs} (hf : ExF p g kx kn ke E0) (h : ExH p g f caps kx kn ke E0 N Es box) (hl : N'.length = N.length) :
  ExH p g f caps kx kn ke E0 N' Es (upd box kn (some (rowsI N'))) := by
 refine ⟨fun k r hk => ?_, ?_, upd_same _ _ _, ?_, hl.trans h.nl, h.el⟩
 ·rw [upd_other _ _ (fun e => by rw [e, hf.n0] at hk; cases hk)]; exact h.ext k r hk
 ·rw [upd_other _ _ (Ne.symm hf.nx)]; exact h.x
 ·rw [upd_other _ _ (Ne.symm hf.ne)]; exact h.e
def candN (p g : Gr) (acc : Mo → Bool) (Es : List Int) (r i : Nat) (N : List Int) (k : Nat) : Bool :=
 decide (g.nodes.getD k 0 = p.nodes.getD i 0) && !decide ((k : Int) ∈ N) && nodeB p g acc Es r (N.set i k)
theorem nodeB_no {p g : Gr} {acc : Mo → Bool} {Es : List Int} {r i : Nat} {N : List Int} (hi : p.nodes.length - (r + 1) = i) (h0 : ¬ 0 ≤ N.getD i 0) (h : ∀ j, j < g.nodes.length → candN p g acc Es r i N j = false) : nodeB p g acc Es (r + 1) N = false := by
 rw [nodeB, hi, if_neg h0, List.any_eq_false]
 intro j hj
 have := h j (by simpa using hj)
 unfold candN at this
 rw [this]; simp
theorem nodeB_yes {p g : Gr} {acc : Mo → Bool} {Es : List Int} {r i : Nat} {N : List Int} (hi : p.nodes.length - (r + 1) = i) (h0 : ¬ 0 ≤ N.getD i 0) {j : Nat} (hj : j < g.nodes.length) (h : candN p g acc Es r i N j = true) : nodeB p g acc Es (r + 1) N = true := by
 rw [nodeB, hi, if_neg h0, List.any_eq_true]
 exact ⟨j, by simpa using hj, h⟩
def stNd (g : Gr) (kx i : Nat) (nb : Nat) (box : Bxs) (tok : Tks) (nt : Nat) (k : Nat) : AState :=
 ⟨tl [(33, .d (ints g.nodes)), (34, I g.nodes.length), (35, I k), (0, .ptr kx 0 0), (1, I i)], lb nb box [], tok, nt⟩
theorem node71_c (p g : Gr) (acc : Mo → Bool) (f : FuncId) (caps : List AV) (kx kn ke : Nat) (E0 : Bxs) (hf : ExF p g kx kn ke E0)
  (hcap : ∀ c ∈ caps, OkIn (fun k => E0 k ≠ none) (fun _ => True) c)
  (hacc : ∀ (q : Mo) box nb tok nt, Ext E0 box → q.nodes.length = p.nodes.length → q.edges.length = p.edges.length → (∀ x ∈ q.nodes, 0 ≤ x) → (∀ x ∈ q.edges, 0 ≤ x) → ACalls Tryz.prog f (q.av :: caps) ⟨box, nb, tok, nt⟩ fun v m => v = B (acc q) ∧ m = ⟨box, nb, tok, nt⟩) :
  ∀ (r i : Nat), i + r = p.nodes.length → ∀ (N Es : List Int) (box : Bxs) (nb : Nat) (tok : Tks) (nt : Nat), ExH p g f caps kx kn ke E0 N Es box → (∀ x ∈ N, x < 0 → x = -1) → (∀ x ∈ Es, x < 0 → x = -1) → NonN N i →
   ACalls Tryz.prog 150 [.ptr kx 0 0, I i] ⟨box, nb, tok, nt⟩ (QNd (nodeB p g acc Es r N) N Es kn ke box nb tok nt)
 | 0, i, hir, N, Es, box, nb, tok, nt, h, hn1, hm, hnn => by
  have hed := edge86_c p g acc N f caps kx kn ke E0 hf hcap hacc (hnn.all (by rw [h.nl]; omega)) p.edges.length 0 (by omega)
  refine sB Tryz.func150 Tryz.ntmps150 ?_
  intro hbox htok
  simp only at hbox htok
  apply AL.start
  have kxn := key_lt hbox h.x
  have knn := key_lt hbox h.n
  have ken := key_lt hbox h.e
  have hx := h.x
  have hn := h.n
  have he := h.e
  have hL : ExH p g f caps kx kn ke E0 N Es (lb nb box []) := by rw [hbox]; exact h
  have hb1 : ((i : Int) == p.nodes.length) = true := by rw [show i = p.nodes.length by omega]; simp
  refine sR ?_
  simp
  refine sR ?_
  simp [lb_out kxn, hx, hb1]
  refine sC ?_
  simp
  refine sR ?_
  simp
  refine Stop.of_a (hed Es _ _ _ _ hL hm fun j hj => absurd hj (Nat.not_lt_zero _)) ?_
  rintro v m ⟨rfl, E', hl, hE', rfl⟩
  simp [upd_lb_out ken]
  refine sT ?_
  try simp only [AU]
  refine ⟨by simp, (Fin.gen (av := B (edgeB p g acc N p.edges.length Es)) (tok' := tok) (nt' := nt) (by simp [resAs, resA]; rfl) (by rw [← upd_lb_out ken, hbox]) (Nat.le_refl _) (Nat.le_refl _) (fun t ht => ⟨ht, .inl rfl⟩) outI (by simp [packA])).mono fun v m hq => ⟨hq.1, N, E', rfl, hl, fun hb => ⟨rfl, hE' hb⟩, ?_⟩⟩
  rw [hq.2, upd_self _ _ _ hn]
 | r + 1, i, hir, N, Es, box, nb, tok, nt, h, hn1, hm, hnn => by
  have ih := node71_c p g acc f caps kx kn ke E0 hf hcap hacc r (i + 1) (by omega)
  refine sB Tryz.func150 Tryz.ntmps150 ?_
  intro hbox htok
  simp only at hbox htok
  apply AL.start
  have kxn := key_lt hbox h.x
  have knn := key_lt hbox h.n
  have ken := key_lt hbox h.e
  have hx := h.x
  have hn := h.n
  have he := h.e
  have hL : ExH p g f caps kx kn ke E0 N Es (lb nb box []) := by rw [hbox]; exact h
  have hb1 : ((i : Int) == p.nodes.length) = false := by simp; omega
  have hip : i < p.nodes.length := by omega
  have hiN : i < N.length := by rw [h.nl]; exact hip
  have hN1 := hf.fp.n
  have hE1 := hf.fp.e
  have hw := sW (i := i) (by omega)
  have hsub : p.nodes.length - (r + 1) = i := by omega
  refine sR ?_
  simp
  refine sR ?_
  simp [lb_out kxn, hx, hb1]
  refine sC ?_
  simp
  refine sR ?_
  simp [lb_out kxn, hx, lb_out knn, hn, hiN, hip]
  by_cases h0 : 0 ≤ N[i]
  ·simp [h0]
   refine sC ?_
   simp
   refine sR ?_
   simp [hw]
   refine Stop.of_a (ih N Es _ _ _ _ hL hn1 hm (hnn.succ hiN h0)) ?_
   rintro v m ⟨rfl, N', E', hl, hl2, hE', rfl⟩
   simp [upd_lb_out ken, upd_lb_out knn]
   refine sT ?_
   try simp only [AU]
   have hR : nodeB p g acc Es (r + 1) N = nodeB p g acc Es r N := by
    rw [nodeB, hsub, if_pos (by simpa [hiN] using h0)]
   refine ⟨by simp, (Fin.gen (av := B (nodeB p g acc Es r N)) (tok' := tok) (nt' := nt) (by simp [resAs, resA]; rfl) (by rw [← upd_lb_out ken, ← upd_lb_out knn, hbox]) (Nat.le_refl _) (Nat.le_refl _) (fun t ht => ⟨ht, .inl rfl⟩) outI2 (by simp [packA])).mono fun v m hq => ⟨by rw [hR]; exact hq.1, N', E', hl, hl2, by rw [hR]; exact hE', hq.2⟩⟩
  ·simp [h0]
   refine sC ?_
   simp
   refine sR ?_
   simp [lb_out kxn, hx, hip]
   refine sN ?_
   have hno := nodeB_no (g := g) (acc := acc) (N := N) (Es := Es) hsub (by simpa [hiN] using h0)
   have hyes := fun j hj => nodeB_yes (g := g) (acc := acc) (N := N) (Es := Es) (j := j) hsub (by simpa [hiN] using h0) hj
   have hmi : N[i] = -1 := hn1 _ (List.getElem_mem hiN) (by omega)
   have hgn := hf.fg.n
   have hwk0 : To (fun k => AM.lb nb box [] k ≠ none) (fun _ => True) none (.ptr kx 0 0) (.ptr kx 0 0) := to_ptr (by rw [lb_out kxn, hx]; simp)
   refine AL.loopT (stNd g kx i nb box tok nt) (fun k => k ≤ g.nodes.length ∧ ∀ j, j < k → candN p g acc Es r i N j = false) (fun k => g.nodes.length - k) 0 ⟨Nat.zero_le _, fun j hj => absurd hj (Nat.not_lt_zero _)⟩ (Weaks.mk (Nat.le_refl _) rfl (by simp [ToL, lk]; exact hwk0) trivial) ?_
   rintro k S ⟨hk, hall⟩ hS
   simp only [stNd] at hS
   subst hS
   have hwk := sW (i := k) (by omega)
   refine sR ?_
   simp
   refine sC ?_
   simp
   refine ⟨fun hlt => ?_, fun hgek => ?_⟩
   ·have hcand : candN p g acc Es r i N k = (decide (g.nodes[k] = p.nodes[i]) && !decide ((k : Int) ∈ N) && nodeB p g acc Es r (N.set i k)) := by
     unfold candN; simp [hlt, hip]
    refine sR ?_
    simp [hlt]
    generalize g.nodes[k] = z at *
    refine sR ?_
    simp [lb_out kxn, hx, hip]
    by_cases hz : z = p.nodes[i]
    ·simp [hz, lb_out kxn, hx]
     refine Stop.of_r (containsN_c N k h.nl.symm (by rw [h.nl]; exact hN1) (by simp only; rw [lb_out knn]; exact hn) _ _) ?_
     by_cases hk' : (k : Int) ∈ N
     ·simp [hk']
      refine sC ?_
      simp
      refine sX ?_
      simp only [AU, ↓reduceIte]
      refine sR ?_
      simp [hwk]
      refine sE ?_
      refine ⟨k + 1, ⟨hlt, fun j hj => ?_⟩, by omega, Weaks.mk (Nat.le_refl _) rfl (by simp [ToL, lk]; exact hwk0) trivial⟩
      by_cases e : j = k
      ·subst e; rw [hcand]; simp [hk']
      ·exact hall j (by omega)
     ·simp [hk']
      refine sC ?_
      simp
      have hle : (N.set i k).length = N.length := by simp
      have hH2 := h.setN hf hle
      have hbox2 : AM.lb nb (upd box kn (some (rowsI (N.set i k)))) [] = upd box kn (some (rowsI (N.set i k))) := by rw [← upd_lb_out knn, hbox]
      have hm2 : ∀ x ∈ N.set i (k : Int), x < 0 → x = -1 := fun x hx hneg => by
       rcases List.mem_or_eq_of_mem_set hx with h1 | h1
       ·exact hn1 x h1 hneg
       ·omega
      refine sR ?_
      simp [lb_out kxn, hx, hip, hiN, lb_out knn, hn, upd_lb_out knn]
      refine sR ?_
      simp [hw]
      refine Stop.of_a (ih (N.set i k) Es _ _ _ _ (hH2.lb hbox2 _) hm2 hm (hnn.set hiN k)) ?_
      rintro v m ⟨rfl, N', E', hl, hl2, hE', rfl⟩
      simp [upd_lb_out knn, upd_lb_out ken, upd_upd]
      have hl' : N'.length = N.length := by rw [hl]; simp
      have hx2 : (upd (upd box kn (some (rowsI N'))) ke (some (rowsI E'))) kx = box kx := by rw [upd_other _ _ (Ne.symm hf.ex), upd_other _ _ (Ne.symm hf.nx)]
      have hn2 : (upd (upd box kn (some (rowsI N'))) ke (some (rowsI E'))) kn = some (rowsI N') := by rw [upd_other _ _ hf.ne, upd_same]
      by_cases hr : nodeB p g acc Es r (N.set i k) = true
      ·have hR := hyes k hlt (by rw [hcand, hr]; simp [hz, hk'])
       simp [hr]
       refine sC ?_
       simp
       refine sR ?_
       simp
       refine sT ?_
       try simp only [AU]
       refine ⟨by simp, (Fin.gen (av := B true) (tok' := tok) (nt' := nt) (by simp [resAs, resA]; rfl) (by rw [← upd_lb_out ken, ← upd_lb_out knn, hbox]) (Nat.le_refl _) (Nat.le_refl _) (fun t ht => ⟨ht, .inl rfl⟩) outI2 (by simp [packA])).mono fun v m hq => ⟨by rw [hR]; exact hq.1, N', E', hl', hl2, by rw [hR]; simp, hq.2⟩⟩
      ·have hr' : nodeB p g acc Es r (N.set i k) = false := by simpa using hr
       obtain ⟨hNN, hEE⟩ := hE' hr'
       have hback : (N'.set i (-1)) = N := by
        rw [hNN, List.set_set, ← hmi, List.set_getElem_self]
       have hiN' : i < N'.length := by rw [hl']; exact hiN
       have hboxb : upd (upd (upd box kn (some (rowsI N'))) ke (some (rowsI E'))) kn (some (rowsI N)) = box := by
        rw [hEE, upd_comm _ hf.ne, upd_upd, upd_comm _ (Ne.symm hf.ne), upd_self _ _ _ hn, upd_self _ _ _ he]
       simp [hr']
       refine sC ?_
       simp
       refine sR ?_
       simp [lb_out kxn, hx2, hx, hip, hiN', lb_out knn, hn2, upd_lb_out knn, hback, hboxb]
       refine sR ?_
       simp [hwk]
       refine sE ?_
       refine ⟨k + 1, ⟨hlt, fun j hj => ?_⟩, by omega, Weaks.mk (Nat.le_refl _) rfl (by simp [ToL, lk]; exact hwk0) trivial⟩
       by_cases e : j = k
       ·subst e; rw [hcand, hr']; simp
       ·exact hall j (by omega)
    ·have hb2 : (z != p.nodes[i]) = true := by simp [hz]
     simp [hb2]
     refine sC ?_
     simp
     refine sX ?_
     simp only [AU, ↓reduceIte]
     refine sR ?_
     simp [hwk]
     refine sE ?_
     refine ⟨k + 1, ⟨hlt, fun j hj => ?_⟩, by omega, Weaks.mk (Nat.le_refl _) rfl (by simp [ToL, lk]; exact hwk0) trivial⟩
     by_cases e : j = k
     ·subst e; rw [hcand]; simp [hz]
     ·exact hall j (by omega)
   ·refine sX ?_
    simp only [AU, ↓reduceIte]
    have hR := hno fun j hj => hall j (by omega)
    refine sR ?_
    simp
    refine sT ?_
    try simp only [AU]
    refine ⟨by simp, (Fin.data (av := B false) (by simp [resAs, resA]; rfl) hbox rfl htok (fun _ h => h) (Nat.le_refl _) (by simp [packA])).mono fun v m hq => ⟨by rw [hR]; exact hq.1, N, Es, rfl, rfl, fun _ => ⟨rfl, rfl⟩, ?_⟩⟩
    rw [hq.2, upd_self _ _ _ hn, upd_self _ _ _ he]
end Go.AM
namespace Go.AM
open Go Go.Proofs
theorem upTo_facts (d : Array Int) (hs : ∀ i j, i ≤ j → j < d.size → d[i]! ≤ d[j]!) : ∀ m, m ≤ d.size → (Lib.compactUpTo d m).Pairwise (· < ·) ∧ ∀ x, x ∈ Lib.compactUpTo d m ↔ ∃ j, j < m ∧ d[j]! = x
 | 0, _ => ⟨List.Pairwise.nil, fun x => ⟨fun h => by simp [Lib.compactUpTo] at h, fun ⟨j, hj, _⟩ => absurd hj (Nat.not_lt_zero _)⟩⟩
 | m + 1, hm => by
  obtain ⟨h1, h2⟩ := upTo_facts d hs m (by omega)
  rw [Lib.compactUpTo_succ]
  by_cases hk : Lib.keeps d m = true
  ·rw [if_pos hk]
   refine ⟨List.pairwise_append.2 ⟨h1, List.pairwise_singleton _ _, fun x hx y hy => ?_⟩, fun x => ?_⟩
   ·rw [List.mem_singleton] at hy
    subst hy
    obtain ⟨j, hj, rfl⟩ := (h2 x).1 hx
    simp only [Lib.keeps, decide_eq_true_eq] at hk
    have a1 := hs j (m - 1) (by omega) (by omega)
    have a2 := hs (m - 1) m (by omega) (by omega)
    have a3 : d[m]! ≠ d[m - 1]! := by rcases hk with hk | hk; omega; exact hk
    omega
   ·rw [List.mem_append, List.mem_singleton, h2]
    constructor
    ·rintro (⟨j, hj, e⟩ | e)
     ·exact ⟨j, by omega, e⟩
     ·exact ⟨m, by omega, e.symm⟩
    ·rintro ⟨j, hj, e⟩
     by_cases ej : j = m
     ·subst ej; exact .inr e.symm
     ·exact .inl ⟨j, by omega, e⟩
  ·rw [if_neg hk, List.append_nil]
   refine ⟨h1, fun x => ?_⟩
   rw [h2]
   constructor
   ·rintro ⟨j, hj, e⟩; exact ⟨j, by omega, e⟩
   ·rintro ⟨j, hj, e⟩
    by_cases ej : j = m
    ·subst ej
     simp only [Lib.keeps, decide_eq_true_eq, not_or, Decidable.not_not] at hk
     exact ⟨j - 1, by omega, by rw [← hk.2]; exact e⟩
    ·exact ⟨j, by omega, e⟩
def sortI (l : List Int) : List Int := l.mergeSort fun x y => decide (x ≤ y)
theorem sortI_perm (l : List Int) : (sortI l).Perm l := List.mergeSort_perm l _
theorem sortI_sorted (l : List Int) : (sortI l).Pairwise (· ≤ ·) := by
 have := List.pairwise_mergeSort (le := fun x y : Int => decide (x ≤ y)) (fun a b c h1 h2 => by simp only [decide_eq_true_eq] at *; omega) (fun a b => by simp only [Bool.or_eq_true, decide_eq_true_eq]; omega) l
 exact this.imp fun h => by simpa using h
theorem sortI_arr (l : List Int) (i j : Nat) (hij : i ≤ j) (hj : j < (sortI l).toArray.size) : (sortI l).toArray[i]! ≤ (sortI l).toArray[j]! := by
 simp only [List.size_toArray] at hj
 rw [getElem!_pos _ i (by simp; omega), getElem!_pos _ j (by simpa using hj)]
 by_cases e : i = j
 ·subst e; omega
 ·exact List.pairwise_iff_getElem.1 (sortI_sorted l) i j (by omega) hj (by omega)
def imagesI (l : List Int) : List Int := Lib.compact (sortI l)
theorem imagesI_sorted (l : List Int) : (imagesI l).Pairwise (· < ·) := (upTo_facts (sortI l).toArray (sortI_arr l) (sortI l).length (by simp)).1
theorem imagesN_len (l : List Int) : imagesN l = (imagesI l).length := rfl
theorem imagesN_iff (l : List Int) : imagesN l = l.length ↔ l.Nodup := by
 have hl : (sortI l).length = l.length := (sortI_perm l).length_eq
 rw [imagesN_len, ← (sortI_perm l).nodup_iff, ← hl]
 constructor
 ·intro h
  have h2 : ∀ j, j < (sortI l).length → Lib.keeps (sortI l).toArray j = true := by
   unfold imagesI Lib.compact Lib.compactUpTo at h
   rw [List.length_map] at h
   have h3 : (List.range (sortI l).length).filter (Lib.keeps (sortI l).toArray) = List.range (sortI l).length := List.filter_sublist.eq_of_length (by rw [h, List.length_range])
   intro j hj
   exact (List.filter_eq_self.1 h3) j (List.mem_range.2 hj)
  have h4 : imagesI l = sortI l := Lib.compact_all _ h2
  have h5 := imagesI_sorted l
  rw [h4] at h5
  exact h5.imp fun h => by omega
 ·intro h
  have h4 : imagesI l = sortI l := Lib.compact_all _ fun j hj => by
   by_cases e : j = 0
   ·simp [Lib.keeps, e]
   ·apply Lib.keeps_pos
    rw [getElem!_pos _ j (by simpa using hj), getElem!_pos _ (j - 1) (by simp; omega)]
    intro e2
    exact List.pairwise_iff_getElem.1 h (j - 1) j (by omega) hj (by omega) e2.symm
  rw [h4]
theorem distK_nodup (l : List Int) : distK l l.length = true ↔ l.Nodup := by
 simp only [distK, List.all_eq_true, List.mem_range, decide_eq_true_eq]
 rw [List.Nodup, List.pairwise_iff_getElem]
 constructor
 ·intro h i j hi hj hij e
  apply h j hj i hij
  rw [List.getD_eq_getElem?_getD, List.getD_eq_getElem?_getD, List.getElem?_eq_getElem hj, List.getElem?_eq_getElem hi]
  exact e.symm
 ·intro h j hj k hkj e
  rw [List.getD_eq_getElem?_getD, List.getD_eq_getElem?_getD, List.getElem?_eq_getElem hj, List.getElem?_eq_getElem (show k < l.length by omega)] at e
  exact h k j (by omega) hj hkj e.symm
theorem images_dist (l : List Int) : decide (imagesN l = l.length) = distK l l.length := by
 rw [Bool.eq_iff_iff, decide_eq_true_eq, imagesN_iff, distK_nodup]
theorem images_beq (l : List Int) : ((imagesN l : Int) == (l.length : Int)) = distK l l.length := by
 rw [← images_dist, beqD]
 simp
 omega
theorem injective56_c (a b : Gr) (m : Mo) (ha : a.Fit) (hb : b.Fit) (hm : m.Fit) (tok : Tks) (nt : Nat) : DCall Tryz.prog 32 [a.av, b.av, m.av] tok nt (B (injM a b m)) tok nt := by
 intro box nb
 have i1 := images_beq m.nodes
 have i2 := images_beq m.edges
 refine sB Tryz.func32 Tryz.ntmps32 ?_
 intro hbox htok
 simp only at hbox htok
 apply AL.start
 refine sR ?_
 simp
 refine sR ?_
 simp
 refine Stop.of_d (valid51_c a b m ha hb _ _) ?_
 simp
 by_cases h1 : validM a b m = 0
 ·simp [h1]
  refine Stop.of_d (images88_c m.nodes hm.n _ _) ?_
  simp [h1]
  simp only [i1]
  by_cases h2 : distK m.nodes m.nodes.length = true
  ·simp [h2]
   refine Stop.of_d (images88_c m.edges hm.e _ _) ?_
   simp [h1, h2, i2]
   refine sT ?_
   try simp only [AU]
   refine ⟨by simp, sF hbox htok (fun _ h => h) (Nat.le_refl _) ?_⟩
   simp [packA, injM, h1, h2]
  ·have h3 : distK m.nodes m.nodes.length = false := by simpa using h2
   simp only [h3]
   simp
   refine sT ?_
   try simp only [AU]
   refine ⟨by simp, sF hbox htok (fun _ h => h) (Nat.le_refl _) ?_⟩
   simp [packA, injM, h1, h3]
 ·have hb1 : (validM a b m == 0) = false := by simp [h1]
  simp only [hb1]
  try simp
  refine sT ?_
  try simp only [AU]
  refine ⟨by simp, sF hbox htok (fun _ h => h) (Nat.le_refl _) ?_⟩
  simp [packA, injM, h1]
end Go.AM
namespace Go.AM
open Go Go.Proofs
inductive Cd.Fit : Cd → Prop
 | mk {c : Cd} (hk : c.kids.length ≤ kidN) (hm : c.m.Fit) (hg : c.g.Fit) (hs : c.sl.length ≤ bigN) (ht : c.te.length ≤ bigN) (h : ∀ x ∈ c.kids, Cd.Fit x) : Cd.Fit c
theorem Cd.Fit.kids {c : Cd} (h : c.Fit) : c.kids.length ≤ kidN := by cases h; assumption
theorem Cd.Fit.kid {c : Cd} (h : c.Fit) : ∀ x ∈ c.kids, Cd.Fit x := by cases h; assumption
theorem Cd.Fit.m {c : Cd} (h : c.Fit) : c.m.Fit := by cases h; assumption
theorem Cd.Fit.g {c : Cd} (h : c.Fit) : c.g.Fit := by cases h; assumption
theorem Cd.Fit.big {c : Cd} (h : c.Fit) : c.Big := by
 induction h with
 | mk hk hm hg hs ht _ ih =>
  refine ⟨hk, ?_, ?_, ?_, ?_, hs, ht, ih⟩
  ·have := hm.n; rw [bigN_eq]; omega
  ·have := hm.e; rw [bigN_eq]; omega
  ·have := hg.n; rw [bigN_eq]; omega
  ·have := hg.e; rw [bigN_eq]; omega
def ovrStep (a : Gr) (k : Int) (m : Mo) (g : Gr) : Int := if k = 5 then (if validM a g m ≠ 0 then validM a g m else if injM a g m = true then 0 else 1) else 0
mutual
def Cd.ovr : Cd → Gr → Int
 | .mk k c m g s v t, a => if shapeC (.mk k c m g s v t) = 0 then if ovrStep a k m g = 0 then Cd.ovrL c (if k = 5 then g else a) else ovrStep a k m g else shapeC (.mk k c m g s v t)
def Cd.ovrL : List Cd → Gr → Int
 | [], _ => 0
 | x :: r, a => if Cd.ovr x a = 0 then Cd.ovrL r a else Cd.ovr x a
end
theorem Cd.ovrL_eq (a : Gr) : ∀ l : List Cd, Cd.ovrL l a = errL (fun x => Cd.ovr x a) l
 | [] => by simp [Cd.ovrL, errL]
 | x :: r => by simp [Cd.ovrL, errL, Cd.ovrL_eq a r]
abbrev Cd.inn (c : Cd) (a : Gr) : Gr := if c.kind = 5 then c.g else a
theorem Cd.ovr_eq (c : Cd) (a : Gr) : c.ovr a = if shapeC c = 0 then if ovrStep a c.kind c.m c.g = 0 then errL (fun x => Cd.ovr x (c.inn a)) c.kids else ovrStep a c.kind c.m c.g else shapeC c := by
 cases c
 rw [Cd.ovr, Cd.ovrL_eq]
 rfl
theorem AL.midP {cx : Cx} {nt0 : Nat} {K : Exit → AState → Prop} {r : List CI} {S : AState} {x y : Code} (T : AState) (p : Prop)
  (h1 : AL Tryz.prog cx nt0 (fun e S' => match e with
   | .normal => p ∧ Weaks cx nt0 S' T
   | e => AU Tryz.prog cx nt0 K (.c y :: r) e S') [.c x] S) (h2 : p → AL Tryz.prog cx nt0 K (.c y :: r) T) : AL Tryz.prog cx nt0 K (.c x :: .c y :: r) S := by
 have h3 := AL.start h1
 simp only [AL] at h2 ⊢
 refine h3.mono fun e S' h => ?_
 cases e with
 | normal => exact AT.weaks h.2 (h2 h.1)
 | _ => exact h
abbrev Gr.cells2 (g : Gr) : List AV := [.d (ints g.nodes), .d (AM.edges g.edges)]
def stOv (a : Gr) (c : Cd) (nb : Nat) (box : Bxs) (tok : Tks) (nt : Nat) (i : Nat) : AState :=
 ⟨tl [(38, .d (conds c.kids)), (39, I c.kids.length), (40, I i), (6, .ptr (nb + 6) 0 0)], lb nb box [(6, [a.cells2])], tok, nt⟩
theorem over_c : ∀ (n : Nat) (c : Cd), SizeOf.sizeOf c < n → c.Fit → ∀ (a : Gr), a.Fit → ∀ (tok : Tks) (nt : Nat), DCall Tryz.prog 120 [a.av, c.av] tok nt (I (c.ovr a)) tok nt
 | 0, c, hn, _, a, _, tok, nt => absurd hn (Nat.not_lt_zero _)
 | n + 1, c, hn, hb, a, ha, tok, nt => by
  intro box nb
  have ih := fun x (hx : x ∈ c.kids) => over_c n x (by have := Cd.kid_lt hx; omega) (hb.kid x hx)
  have hkb := hb.kids
  rw [kidN_eq] at hkb
  have hR := c.ovr_eq a
  have hsh := shape_c c
  have hva := valid51_c a c.g c.m ha hb.g
  have hin := injective56_c a c.g c.m ha hb.g hb.m
  have hinn : (c.inn a).Fit := by unfold Cd.inn; split; exact hb.g; exact ha
  refine sB Tryz.func120 Tryz.ntmps120 ?_
  intro hbox htok
  simp only at hbox htok
  apply AL.start
  refine sR ?_
  simp
  refine sR ?_
  simp
  refine Stop.of_d (hsh _ _) ?_
  simp
  refine sR ?_
  simp
  by_cases h0 : shapeC c = 0
  ·simp [h0]
   refine sC ?_
   simp
   refine sR ?_
   simp
   refine sR ?_
   simp
   refine AL.midP ⟨tl [(6, .ptr (nb + 6) 0 0), (3, .ptr (nb + 3) 0 0)], lb nb box [(6, [(c.inn a).cells2]), (3, [c.row])], tok, nt⟩ (ovrStep a c.kind c.m c.g = 0) ?_ ?_
   ·have hst : ovrStep a c.kind c.m c.g = if c.kind = 5 then (if validM a c.g c.m ≠ 0 then validM a c.g c.m else if injM a c.g c.m = true then 0 else 1) else 0 := rfl
    by_cases k5 : c.kind = 5
    ·have hii : c.inn a = c.g := if_pos k5
     rw [if_pos k5] at hst
     simp [k5]
     refine sC ?_
     simp
     refine sR ?_
     simp
     refine sR ?_
     simp
     refine Stop.of_d (hva _ _) ?_
     simp
     refine sR ?_
     simp
     by_cases h1 : validM a c.g c.m = 0
     ·rw [if_neg (by simp [h1])] at hst
      simp [h1]
      refine sC ?_
      simp
      refine sR ?_
      simp
      refine Stop.of_d (hin _ _) ?_
      simp
      cases h2 : injM a c.g c.m
      ·simp [h2] at hst
       refine sC ?_
       simp
       refine sR ?_
       simp
       refine sT ?_
       try simp only [AU]
       refine ⟨by simp, sF hbox htok (fun _ h => h) (Nat.le_refl _) ?_⟩
       simp [packA, hR, h0, hst]
      ·simp [h2] at hst
       refine sC ?_
       simp
       refine sE ?_
       refine ⟨by simpa [k5] using hst, ?_⟩
       exact Weaks.mk (Nat.le_refl _) rfl (by simp [ToL, lk]) (by simp [BoxL, lk, hii])
     ·rw [if_pos (by simpa using h1)] at hst
      have b1 : (validM a c.g c.m != 0) = true := by simp [h1]
      simp only [b1]
      refine sC ?_
      simp
      refine sR ?_
      simp
      refine sT ?_
      try simp only [AU]
      refine ⟨by simp, sF hbox htok (fun _ h => h) (Nat.le_refl _) ?_⟩
      simp [packA, hR, h0, hst, h1]
    ·have hii : c.inn a = a := if_neg k5
     have n5 : (c.kind == 5) = false := by simp [k5]
     simp only [n5]
     refine sC ?_
     simp
     refine sE ?_
     refine ⟨by rw [hst, if_neg k5], ?_⟩
     exact Weaks.mk (Nat.le_refl _) rfl (by simp [ToL, lk]) (by simp [BoxL, lk, hii])
   ·intro hst
    rw [if_pos h0, if_pos hst] at hR
    generalize c.inn a = b at *
    refine sR ?_
    simp
    refine sN ?_
    refine AL.loopT (stOv b c nb box tok nt) (fun i => i ≤ c.kids.length ∧ ∀ x ∈ c.kids.take i, Cd.ovr x b = 0) (fun i => c.kids.length - i) 0 ⟨Nat.zero_le _, by simp⟩ (Weaks.mk (Nat.le_refl _) rfl (by simp [ToL, lk]) (by simp [BoxL, lk])) ?_
    rintro i S ⟨hi, hz⟩ hS
    simp only [stOv] at hS
    subst hS
    have hw := sW (i := i) (by omega)
    refine sR ?_
    simp
    refine sC ?_
    simp
    refine ⟨fun hlt => ?_, fun hge => ?_⟩
    ·have ihx := fun a ha => ih _ (List.getElem_mem hlt) a ha
     have hyes := errL_more (f := fun x => Cd.ovr x b) hlt hz
     have hno := errL_at (f := fun x => Cd.ovr x b) hlt hz
     refine sR ?_
     simp [hlt, Cd.cells_eq]
     generalize c.kids[i] = x at *
     refine sR ?_
     simp
     refine Stop.of_d (ihx b hinn _ _) ?_
     simp
     refine sR ?_
     simp
     by_cases h1 : x.ovr b = 0
     ·simp only [h1]
      refine sC ?_
      simp
      refine sR ?_
      simp [hw]
      refine sE ?_
      exact ⟨i + 1, ⟨hlt, hyes h1⟩, by omega, Weaks.mk (Nat.le_refl _) rfl (by simp [ToL, lk]) (by simp [BoxL, lk])⟩
     ·have b1 : (x.ovr b != 0) = true := by simp [h1]
      simp only [b1]
      refine sC ?_
      simp
      refine sR ?_
      simp
      refine sT ?_
      try simp only [AU]
      refine ⟨by simp, sF hbox htok (fun _ h => h) (Nat.le_refl _) ?_⟩
      simp [packA, hR, hno h1]
    ·refine sX ?_
     simp only [AU, ↓reduceIte]
     rw [List.take_of_length_le hge] at hz
     refine sR ?_
     simp
     refine sT ?_
     try simp only [AU]
     refine ⟨by simp, sF hbox htok (fun _ h => h) (Nat.le_refl _) ?_⟩
     simp [packA, hR, errL_all (f := fun x => Cd.ovr x b) hz]
  ·rw [if_neg h0] at hR
   have b0 : (shapeC c != 0) = true := by simp [h0]
   simp only [b0]
   refine sC ?_
   simp
   refine sR ?_
   simp
   refine sT ?_
   try simp only [AU]
   refine ⟨by simp, sF hbox htok (fun _ h => h) (Nat.le_refl _) ?_⟩
   simp [packA, hR]
def validC (a : Gr) (c : Cd) : Int := if validG a ≠ 0 then validG a else if c.ovr a ≠ 0 then c.ovr a else smallC c
theorem validC_c (a : Gr) (c : Cd) (ha : a.Fit) (hb : c.Fit) (tok : Tks) (nt : Nat) : DCall Tryz.prog 60 [a.av, c.av] tok nt (I (validC a c)) tok nt := by
 intro box nb
 have hg := graphValid_c a ha
 have ho := over_c _ c (Nat.lt_succ_self _) hb a ha
 have hs := cdSmall_c c hb.big
 refine sB Tryz.func60 Tryz.ntmps60 ?_
 intro hbox htok
 simp only at hbox htok
 apply AL.start
 try (simp)
 repeat (refine sR ?_; simp)
 refine Stop.of_d (hg _ _) ?_
 simp
 try (simp)
 repeat (refine sR ?_; simp)
 by_cases h0 : validG a = 0
 ·simp only [h0]
  refine sC ?_
  simp
  try (simp)
  repeat (refine sR ?_; simp)
  refine Stop.of_d (ho _ _) ?_
  simp
  try (simp)
  repeat (refine sR ?_; simp)
  by_cases h1 : c.ovr a = 0
  ·simp only [h1]
   refine sC ?_
   simp
   try (simp)
   repeat (refine sR ?_; simp)
   refine Stop.of_d (hs _ _) ?_
   simp
   try (simp)
   repeat (refine sR ?_; simp)
   refine sT ?_
   try simp only [AU]
   refine ⟨by simp, sF hbox htok (fun _ h => h) (Nat.le_refl _) ?_⟩
   simp [packA, validC, h0, h1]
  ·have b1 : (c.ovr a != 0) = true := by simp [h1]
   simp only [b1]
   refine sC ?_
   simp
   try (simp)
   repeat (refine sR ?_; simp)
   refine sT ?_
   try simp only [AU]
   refine ⟨by simp, sF hbox htok (fun _ h => h) (Nat.le_refl _) ?_⟩
   simp [packA, validC, h0, h1]
 ·have b0 : (validG a != 0) = true := by simp [h0]
  simp only [b0]
  refine sC ?_
  simp
  try (simp)
  repeat (refine sR ?_; simp)
  refine sT ?_
  try simp only [AU]
  refine ⟨by simp, sF hbox htok (fun _ h => h) (Nat.le_refl _) ?_⟩
  simp [packA, validC, h0]
def arrR (a b : Gr) (m : Mo) : Int := if validM a b m ≠ 0 then validM a b m else if injM a b m = true then 0 else 1
theorem cdInj_c (a b : Gr) (m : Mo) (ha : a.Fit) (hb : b.Fit) (hm : m.Fit) (tok : Tks) (nt : Nat) : DCall Tryz.prog 83 [a.av, b.av, m.av] tok nt (I (arrR a b m)) tok nt := by
 intro box nb
 have hva := valid51_c a b m ha hb
 have hin := injective56_c a b m ha hb hm
 refine sB Tryz.func83 Tryz.ntmps83 ?_
 intro hbox htok
 simp only at hbox htok
 apply AL.start
 try (simp)
 repeat (refine sR ?_; simp)
 refine Stop.of_d (hva _ _) ?_
 simp
 try (simp)
 repeat (refine sR ?_; simp)
 by_cases h0 : validM a b m = 0
 ·simp only [h0]
  refine sC ?_
  simp
  try (simp)
  repeat (refine sR ?_; simp)
  refine Stop.of_d (hin _ _) ?_
  simp
  cases h1 : injM a b m
  ·refine sC ?_
   simp
   try (simp)
   repeat (refine sR ?_; simp)
   refine sT ?_
   try simp only [AU]
   refine ⟨by simp, sF hbox htok (fun _ h => h) (Nat.le_refl _) ?_⟩
   simp [packA, arrR, h0, h1]
  ·refine sC ?_
   simp
   try (simp)
   repeat (refine sR ?_; simp)
   refine sT ?_
   try simp only [AU]
   refine ⟨by simp, sF hbox htok (fun _ h => h) (Nat.le_refl _) ?_⟩
   simp [packA, arrR, h0, h1]
 ·have b0 : (validM a b m != 0) = true := by simp [h0]
  simp only [b0]
  refine sC ?_
  simp
  try (simp)
  repeat (refine sR ?_; simp)
  refine sT ?_
  try simp only [AU]
  refine ⟨by simp, sF hbox htok (fun _ h => h) (Nat.le_refl _) ?_⟩
  simp [packA, arrR, h0]
end Go.AM
namespace Go.AM
open Go Go.Proofs
end Go.AM
namespace Go.AM
open Go Go.Proofs
theorem shape_kind {c : Cd} (h : shapeC c = 0) (h5 : c.kind = 5) : c.kids.length = 1 := by
 unfold shapeC at h
 split at h
 ·rename_i hk
  simp [okC, h5] at hk
  omega
 ·omega
end Go.AM
namespace Go.AM
open Go Go.Proofs
def placesK (l h : List Int) (i : Nat) : List Int := (l.take i).map (indexI h)
@[simp] theorem placesK_len (l h : List Int) (i : Nat) : (placesK l h i).length = min i l.length := by simp [placesK]
def byK (l by' : List Int) (i : Nat) : List Int := (l.take i).map fun x => by'.getD x.toNat 0
theorem byK_zero (l h : List Int) : byK l h 0 = [] := by simp [byK]
@[simp] theorem byK_len (l h : List Int) (i : Nat) : (byK l h i).length = min i l.length := by simp [byK]
theorem byK_succ (l h : List Int) {i : Nat} (hi : i < l.length) : byK l h (i + 1) = byK l h i ++ [h.getD l[i].toNat 0] := by simp only [byK, List.take_add_one, List.getElem?_eq_getElem hi, Option.toList, List.map_append, List.map_cons, List.map_nil]
def thenM (m n : Mo) : Mo := ⟨byK m.nodes n.nodes m.nodes.length, byK m.edges n.edges m.edges.length⟩
theorem firstE_all {f : Nat → Int} : ∀ n, firstE f n = 0 → ∀ i, i < n → f i = 0
 | 0, _, i, hi => absurd hi (Nat.not_lt_zero _)
 | n + 1, h, i, hi => by
  simp only [firstE] at h
  split at h
  ·rename_i h0
   by_cases e : i = n
   ·subst e; exact h
   ·exact firstE_all n h0 i (by omega)
  ·contradiction
structure VM (a b : Gr) (m : Mo) : Prop where
 va : validG a = 0
 vb : validG b = 0
 ln : m.nodes.length = a.nodes.length
 le : m.edges.length = a.edges.length
 n : ∀ x ∈ m.nodes, 0 ≤ x ∧ x < b.nodes.length
 e : ∀ x ∈ m.edges, 0 ≤ x ∧ x < b.edges.length
 nt : ∀ i, i < a.nodes.length → b.nodes.getD (m.nodes.getD i 0).toNat 0 = a.nodes.getD i 0
 et : ∀ i, i < a.edges.length → b.edges.getD (m.edges.getD i 0).toNat default = ⟨(a.edges.getD i default).ty, m.nodes.getD (a.edges.getD i default).fr.toNat 0, m.nodes.getD (a.edges.getD i default).to.toNat 0⟩
theorem validM_VM {a b : Gr} {m : Mo} (h : validM a b m = 0) : VM a b m := by
 unfold validM at h
 split at h
 ·omega
 ·rename_i h1
  split at h
  ·omega
  ·rename_i h2
   split at h
   ·cases h
   ·rename_i h3
    have hl1 : m.nodes.length = a.nodes.length := by omega
    have hl2 : m.edges.length = a.edges.length := by omega
    split at h
    ·contradiction
    ·rename_i h4
     have h4' : firstE (nodeE a b m) a.nodes.length = 0 := Decidable.not_not.1 h4
     have n1 := firstE_all _ h4'
     have n2 := firstE_all _ h
     refine ⟨by omega, by omega, hl1, hl2, fun x hx => ?_, fun x hx => ?_, fun i hi => ?_, fun i hi => ?_⟩
     ·obtain ⟨i, hi, rfl⟩ := List.getElem_of_mem hx
      have := n1 i (by omega)
      have e : m.nodes.getD i 0 = m.nodes[i] := by simp [hi]
      unfold nodeE at this
      rw [e] at this
      split at this
      ·cases this
      ·omega
     ·obtain ⟨i, hi, rfl⟩ := List.getElem_of_mem hx
      have := n2 i (by omega)
      have e : m.edges.getD i 0 = m.edges[i] := by simp [hi]
      unfold edgeE at this
      rw [e] at this
      split at this
      ·cases this
      ·omega
     ·have := n1 i hi
      unfold nodeE at this
      split at this
      ·cases this
      ·split at this
       ·assumption
       ·cases this
     ·have := n2 i hi
      unfold edgeE at this
      split at this
      ·cases this
      ·simp only at this
       split at this
       ·cases this
       ·rename_i t1
        split at this
        ·cases this
        ·rename_i t2
         have t1' := Decidable.not_not.1 t1
         simp only [ne_eq, not_or, Decidable.not_not] at t2
         rw [t1', t2.1, t2.2]
end Go.AM
namespace Go.AM
open Go Go.Proofs
def stIC (xs : List Cd) (f : FuncId) (caps : List AV) (nb : Nat) (box : Bxs) (tok : Tks) (nt : Nat) (i : Nat) : AState := ⟨tl [(0, .d (conds xs)), (1, .fn (.func f) caps), (7, I xs.length), (8, I i)], lb nb box [], tok, nt⟩
def anyC (p : Cd → Bool) (xs : List Cd) : Bool := xs.any p
theorem indexFuncC_c (xs : List Cd) (f : FuncId) (caps : List AV) (p : Cd → Bool) (hx : xs.length ≤ kidN) (box : Bxs) (nb : Nat) (tok : Tks) (nt : Nat) (hc : ∀ c ∈ caps, OkIn (fun k => box k ≠ none) (fun _ => True) c)
  (hf : ∀ x ∈ xs, ∀ box' nb', Ext box box' → ACalls Tryz.prog f (x.av :: caps) ⟨box', nb', tok, nt⟩ fun v m => v = B (p x) ∧ m = ⟨box', nb', tok, nt⟩) :
  ACalls Tryz.prog 206 [.d (conds xs), .fn (.func f) caps] ⟨box, nb, tok, nt⟩ fun v m => v = I (if anyC p xs = true then (xs.findIdx p : Nat) else -1) ∧ m = ⟨box, nb, tok, nt⟩ := by
 rw [kidN_eq] at hx
 refine sB Tryz.func206 Tryz.ntmps206 ?_
 intro hbox htok
 simp only at hbox htok
 apply AL.start
 try (simp)
 repeat (refine sR ?_; simp)
 refine sN ?_
 refine AL.loopT (stIC xs f caps nb box tok nt) (fun i => i ≤ xs.length ∧ ∀ x ∈ xs.take i, p x = false) (fun i => xs.length - i) 0 ⟨Nat.zero_le _, by simp⟩ (Weaks.mk (Nat.le_refl _) rfl (by simp [ToL]; exact .same (okFn hc hbox [] (by simp) rfl _)) trivial) ?_
 rintro i S ⟨hi, htk⟩ hS
 simp only [stIC] at hS
 subst hS
 have hw := sW (i := i) (by omega)
 try (simp)
 repeat (refine sR ?_; simp)
 refine sC ?_
 simp
 refine ⟨fun hlt => ?_, fun hge => ?_⟩
 ·have hfx := hf xs[i] (List.getElem_mem _)
  have hpx : p xs[i] = true → anyC p xs = true ∧ (xs.findIdx p = i) := fun he => any_take hlt htk he
  have hmore : p xs[i] = false → ∀ x ∈ xs.take (i + 1), p x = false := fun he x hx => by
   rw [List.take_succ_eq_append_getElem hlt] at hx
   rcases List.mem_append.1 hx with hx | hx
   ·exact htk x hx
   ·simp at hx; rw [hx]; exact he
  try (simp [hlt, Cd.cells_eq])
  repeat (refine sR ?_; simp [hlt, Cd.cells_eq])
  generalize xs[i] = x at *
  refine Stop.of_b (hfx _ _ ((Ext.refl box).lb hbox [])) ?_
  simp
  cases he : p x
  ·refine sC ?_
   simp
   try (simp [hw])
   repeat (refine sR ?_; simp [hw])
   refine sE ?_
   refine ⟨i + 1, ⟨hlt, ?_⟩, by omega, Weaks.mk (Nat.le_refl _) rfl (by simp [ToL]; exact .same (okFn hc hbox [] (by simp) rfl _)) trivial⟩
   exact hmore he
  ·obtain ⟨h1, h2⟩ := hpx he
   refine sC ?_
   simp
   try (simp)
   repeat (refine sR ?_; simp)
   refine sT ?_
   try simp only [AU]
   refine ⟨by simp, sF hbox htok (fun _ h => h) (Nat.le_refl _) ?_⟩
   simp [packA, h1, h2]
 ·refine sX ?_
  simp only [AU, ↓reduceIte]
  try (simp)
  repeat (refine sR ?_; simp)
  have hn : anyC p xs = false := by
   rw [List.take_of_length_le hge] at htk
   simpa [anyC] using htk
  refine sT ?_
  try simp only [AU]
  refine ⟨by simp, sF hbox htok (fun _ h => h) (Nat.le_refl _) ?_⟩
  simp [packA, hn]
theorem containsFuncC_c (xs : List Cd) (f : FuncId) (caps : List AV) (p : Cd → Bool) (hx : xs.length ≤ kidN) (box : Bxs) (nb : Nat) (tok : Tks) (nt : Nat) (hc : ∀ c ∈ caps, OkIn (fun k => box k ≠ none) (fun _ => True) c)
  (hf : ∀ x ∈ xs, ∀ box' nb', Ext box box' → ACalls Tryz.prog f (x.av :: caps) ⟨box', nb', tok, nt⟩ fun v m => v = B (p x) ∧ m = ⟨box', nb', tok, nt⟩) :
  ACalls Tryz.prog 147 [.d (conds xs), .fn (.func f) caps] ⟨box, nb, tok, nt⟩ fun v m => v = B (anyC p xs) ∧ m = ⟨box, nb, tok, nt⟩ := by
 refine sB Tryz.func147 Tryz.ntmps147 ?_
 intro hbox htok
 simp only at hbox htok
 apply AL.start
 try (simp)
 repeat (refine sR ?_; simp)
 refine Stop.of_b (indexFuncC_c xs f caps p hx (lb nb box []) _ _ _ (fun c h => (hc c h).mono (fun k hk => by rw [hbox]; exact hk) fun _ h => h) (fun x hx' box' nb' he => hf x hx' box' nb' (by rw [hbox] at he; exact he))) ?_
 simp
 cases hany : anyC p xs
 ·try (simp)
  repeat (refine sR ?_; simp)
  refine sT ?_
  try simp only [AU]
  refine ⟨by simp, sF hbox htok (fun _ h => h) (Nat.le_refl _) ?_⟩
  simp [packA]
 ·have h0 : (0 : Int) ≤ (xs.findIdx p : Nat) := by omega
  try (simp)
  repeat (refine sR ?_; simp)
  refine sT ?_
  try simp only [AU]
  refine ⟨by simp, sF hbox htok (fun _ h => h) (Nat.le_refl _) ?_⟩
  simp [packA, h0]
abbrev Mo.cells2 (m : Mo) : List AV := [.d (ints m.nodes), .d (ints m.edges)]
theorem yes66_c (k : Cd) (g : Gr) (m : Mo) (r : Bool) (hd : ∀ tok nt, DCall Tryz.prog 84 [k.av, g.av, m.av] tok nt (B r) tok nt) (box : Bxs) (nb k1 k2 : Nat) (tok : Tks) (nt : Nat) (h1 : box k1 = some [g.cells2]) (h2 : box k2 = some [m.cells2]) :
  ACalls Tryz.prog 145 [k.av, .ptr k1 0 0, .ptr k2 0 0] ⟨box, nb, tok, nt⟩ fun v m => v = B r ∧ m = ⟨box, nb, tok, nt⟩ := by
 refine sB Tryz.func145 Tryz.ntmps145 ?_
 intro hbox htok
 simp only at hbox htok
 apply AL.start
 have k1n := key_lt hbox h1
 have k2n := key_lt hbox h2
 try (simp [lb_out k1n, h1, lb_out k2n, h2])
 repeat (refine sR ?_; simp [lb_out k1n, h1, lb_out k2n, h2])
 refine Stop.of_d (hd _ _) ?_
 simp
 try (simp)
 repeat (refine sR ?_; simp)
 refine sT ?_
 try simp only [AU]
 refine ⟨by simp, sF hbox htok (fun _ h => h) (Nat.le_refl _) ?_⟩
 simp [packA]
theorem no67_c (k : Cd) (g : Gr) (m : Mo) (r : Bool) (hd : ∀ tok nt, DCall Tryz.prog 84 [k.av, g.av, m.av] tok nt (B r) tok nt) (box : Bxs) (nb k1 k2 : Nat) (tok : Tks) (nt : Nat) (h1 : box k1 = some [g.cells2]) (h2 : box k2 = some [m.cells2]) :
  ACalls Tryz.prog 146 [k.av, .ptr k1 0 0, .ptr k2 0 0] ⟨box, nb, tok, nt⟩ fun v m => v = B (!r) ∧ m = ⟨box, nb, tok, nt⟩ := by
 refine sB Tryz.func146 Tryz.ntmps146 ?_
 intro hbox htok
 simp only at hbox htok
 apply AL.start
 have k1n := key_lt hbox h1
 have k2n := key_lt hbox h2
 try (simp [lb_out k1n, h1, lb_out k2n, h2])
 repeat (refine sR ?_; simp [lb_out k1n, h1, lb_out k2n, h2])
 refine Stop.of_d (hd _ _) ?_
 simp
 try (simp)
 repeat (refine sR ?_; simp)
 refine sT ?_
 try simp only [AU]
 refine ⟨by simp, sF hbox htok (fun _ h => h) (Nat.le_refl _) ?_⟩
 simp [packA]
theorem acc70_c (c k : Cd) (g : Gr) (m : Mo) (r : Bool) (hl0 : 0 < c.kids.length) (hk : c.kids[0] = k) (hd : ∀ tok nt, DCall Tryz.prog 84 [k.av, g.av, m.av] tok nt (B r) tok nt) (box : Bxs) (nb k1 k2 : Nat) (tok : Tks) (nt : Nat) (h1 : box k1 = some [c.row]) (h2 : box k2 = some [g.cells2]) :
  ACalls Tryz.prog 149 [m.av, .ptr k1 0 0, .ptr k2 0 0] ⟨box, nb, tok, nt⟩ fun v m => v = B r ∧ m = ⟨box, nb, tok, nt⟩ := by
 refine sB Tryz.func149 Tryz.ntmps149 ?_
 intro hbox htok
 simp only at hbox htok
 apply AL.start
 have k1n := key_lt hbox h1
 have k2n := key_lt hbox h2
 try (simp [lb_out k1n, h1, lb_out k2n, h2, hk, hl0, Cd.cells_eq])
 repeat (refine sR ?_; simp [lb_out k1n, h1, lb_out k2n, h2, hk, hl0, Cd.cells_eq])
 refine Stop.of_d (hd _ _) ?_
 simp
 try (simp)
 repeat (refine sR ?_; simp)
 refine sT ?_
 try simp only [AU]
 refine ⟨by simp, sF hbox htok (fun _ h => h) (Nat.le_refl _) ?_⟩
 simp [packA]
def holStep (k : Int) (mm : Mo) (p g : Gr) (m : Mo) (bs : Mo → List Bool) : Bool :=
 if k = 2 then !((bs m).headD false) else if k = 3 then (bs m).all id else if k = 4 then (bs m).any id
 else if k = 5 then nodeB p g (fun q => (bs q).headD false) (imgK p.edges.length mm.edges m.edges mm.edges.length) p.nodes.length (imgK p.nodes.length mm.nodes m.nodes mm.nodes.length)
 else true
mutual
def Cd.hol : Cd → Gr → Mo → Bool
 | .mk k c mm p s v t, g, m => holStep k mm p g m (fun q => Cd.holL c g q)
def Cd.holL : List Cd → Gr → Mo → List Bool
 | [], _, _ => []
 | x :: r, g, m => Cd.hol x g m :: Cd.holL r g m
end
theorem Cd.holL_eq (g : Gr) (m : Mo) : ∀ l : List Cd, Cd.holL l g m = l.map fun x => Cd.hol x g m
 | [] => by simp [Cd.holL]
 | x :: r => by simp [Cd.holL, Cd.holL_eq g m r]
theorem Cd.hol_eq (c : Cd) (g : Gr) (m : Mo) : c.hol g m = holStep c.kind c.m c.g g m (fun q => c.kids.map fun x => Cd.hol x g q) := by
 cases c
 simp only [Cd.hol, Cd.holL_eq]
 rfl
theorem Ext.of_lk {base : Nat} {out : Bxs} {L L' : List (Nat × List (List AV))} (h : ∀ s r, lk L s = some r → lk L' s = some r) : Ext (AM.lb base out L) (AM.lb base out L') := fun k rows hk => by
 by_cases hb : k < base
 ·rw [lb_out hb] at hk ⊢; exact hk
 ·have hkk : k = base + (k - base) := by omega
  rw [hkk, lb_at] at hk ⊢
  exact h _ _ hk
structure Flm (a : Gr) (m : Mo) : Prop where
 n : m.nodes.length = a.nodes.length
 e : m.edges.length = a.edges.length
 nn : ∀ x ∈ m.nodes, 0 ≤ x
 ne : ∀ x ∈ m.edges, 0 ≤ x
theorem errL_zero {f : Cd → Int} : ∀ {l : List Cd}, errL f l = 0 → ∀ x ∈ l, f x = 0
 | [], _, x, hx => by cases hx
 | y :: r, h, x, hx => by
  simp only [errL] at h
  split at h
  ·rename_i h0
   rcases List.mem_cons.1 hx with rfl | hx
   ·exact h0
   ·exact errL_zero h x hx
  ·contradiction
theorem Cd.ovr_zero {c : Cd} {a : Gr} (h : c.ovr a = 0) : shapeC c = 0 ∧ ovrStep a c.kind c.m c.g = 0 ∧ ∀ x ∈ c.kids, x.ovr (c.inn a) = 0 := by
 rw [c.ovr_eq] at h
 split at h
 ·rename_i h0
  split at h
  ·rename_i h1
   exact ⟨h0, h1, errL_zero h⟩
  ·contradiction
 ·contradiction
theorem shape_one {c : Cd} (h : shapeC c = 0) (h5 : c.kind = 2 ∨ c.kind = 5) : 0 < c.kids.length := by
 unfold shapeC at h
 split at h
 ·rename_i hk
  rcases h5 with h5 | h5 <;> simp [okC, h5] at hk <;> omega
 ·omega
theorem all_any {l : List Bool} : l.all id = !(l.any not) := by
 induction l with
 | nil => rfl
 | cons x r ih => cases x <;> simp [ih]
theorem ThR.nil {t k sz : Nat} {es : List (List D)} : ThR t k sz es [] [] := ⟨rfl, fun i h => by simp at h⟩
theorem ThR.cons {t k sz : Nat} {es : List (List D)} {x y : AV} {r r' : List AV} (h : ThTo t k sz es x y) (hr : ThR t k sz es r r') : ThR t k sz es (x :: r) (y :: r') := by
 refine ⟨by simp [hr.1], fun i h1 h2 => ?_⟩
 match i with
 | 0 => exact h
 | i + 1 => exact hr.2 i (by simpa using h1) (by simpa using h2)
theorem ThRs.one {t k sz : Nat} {es : List (List D)} {r r' : List AV} (h : ThR t k sz es r r') : ThRs t k sz es [r] [r'] := by
 refine ⟨rfl, fun i h1 h2 => ?_⟩
 match i with
 | 0 => exact h
 | i + 1 => simp at h1
theorem ThRs.same {t k sz : Nat} {es : List (List D)} {r : List (List AV)} : ThRs t k sz es r r := ⟨rfl, fun i h1 h2 => ⟨rfl, fun j g1 g2 => .same⟩⟩
theorem imgK_neg {n : Nat} {by' m : List Int} (hm : ∀ x ∈ m, 0 ≤ x) (h : by'.length ≤ m.length) : ∀ i, i ≤ by'.length → ∀ x ∈ imgK n by' m i, x < 0 → x = -1
 | 0, _, x, hx, _ => (List.mem_replicate.1 hx).2
 | i + 1, hi, x, hx, hneg => by
  rcases List.mem_or_eq_of_mem_set hx with h1 | h1
  ·exact imgK_neg hm h i (by omega) x h1 hneg
  ·have him : i < m.length := by omega
   have := hm m[i] (List.getElem_mem him)
   simp [him] at h1
   omega
set_option maxRecDepth 100000 in
theorem holds43_c : ∀ (n : Nat) (c : Cd), SizeOf.sizeOf c < n → c.Fit → ∀ a, c.ovr a = 0 → ∀ g : Gr, g.Fit → ∀ m : Mo, Flm a m → ∀ (tok : Tks) (nt : Nat), DCall Tryz.prog 84 [c.av, g.av, m.av] tok nt (B (c.hol g m)) tok nt
 | 0, c, hn, _, _, _, _, _, _, _, tok, nt => absurd hn (Nat.not_lt_zero _)
 | n + 1, c, hn, hb, a, hv, g, hg, m, hm, tok, nt => by
  intro box nb
  have ih := fun x (hx : x ∈ c.kids) => holds43_c n x (by have := Cd.kid_lt hx; omega) (hb.kid x hx) (c.inn a) ((Cd.ovr_zero hv).2.2 x hx) g hg
  obtain ⟨hs0, hst, _⟩ := Cd.ovr_zero hv
  have hkb := hb.kids
  have hR := c.hol_eq g m
  have hsk := shape_one hs0
  have hcap : ∀ c1 ∈ [AV.ptr (nb + 4) 0 0, .ptr (nb + 5) 0 0], OkIn (fun k => lb nb box [(5, [m.cells2]), (4, [g.cells2]), (3, [c.row])] k ≠ none) (fun _ => True) c1 := by
   intro c1 hc1
   simp only [List.mem_cons, List.not_mem_nil, or_false] at hc1
   rcases hc1 with rfl | rfl
   ·exact .ptr (by simp [lb_at])
   ·exact .ptr (by simp [lb_at])
  refine sB Tryz.func84 Tryz.ntmps84 ?_
  intro hbox htok
  simp only at hbox htok
  apply AL.start
  try (simp)
  repeat (refine sR ?_; simp)
  by_cases k2 : c.kind = 2
  ·have b2 : (c.kind == 2) = true := by simp [k2]
   have hlt : 0 < c.kids.length := hsk (.inl k2)
   have hii : c.inn a = a := if_neg (by rw [k2]; decide)
   rw [hii] at ih
   have ihx := ih _ (List.getElem_mem hlt) m hm
   have hR2 : c.hol g m = !(Cd.hol c.kids[0] g m) := by
    rw [hR, holStep, if_pos k2]
    congr 1
    match c.kids, hlt with
    | y :: r, _ => rfl
   simp only [b2]
   refine sC ?_
   simp
   try (simp [hlt, Cd.cells_eq])
   repeat (refine sR ?_; simp [hlt, Cd.cells_eq])
   generalize c.kids[0] = x at *
   refine Stop.of_b (no67_c x g m _ ihx _ _ _ _ _ _ (by simp [lb_at]) (by simp [lb_at])) ?_
   simp
   try (simp)
   repeat (refine sR ?_; simp)
   refine sT ?_
   try simp only [AU]
   refine ⟨by simp, sF hbox htok (fun _ h => h) (Nat.le_refl _) ?_⟩
   simp [packA, hR2]
  ·have b2 : (c.kind == 2) = false := by simp [k2]
   simp only [b2]
   refine sC ?_
   simp
   try (simp)
   repeat (refine sR ?_; simp)
   by_cases k3 : c.kind = 3
   ·have b3 : (c.kind == 3) = true := by simp [k3]
    have hii : c.inn a = a := if_neg (by rw [k3]; decide)
    rw [hii] at ih
    have hR3 : c.hol g m = !(anyC (fun x => !(x.hol g m)) c.kids) := by
     rw [hR, holStep, if_neg k2, if_pos k3, all_any, anyC, List.any_map]
     rfl
    simp only [b3]
    refine sC ?_
    simp
    try (simp)
    repeat (refine sR ?_; simp)
    refine Stop.of_b (containsFuncC_c c.kids 146 [.ptr (nb + 4) 0 0, .ptr (nb + 5) 0 0] (fun x => !(x.hol g m)) hkb _ _ _ _ hcap (fun x hx box' nb' he => no67_c x g m _ (ih x hx m hm) _ _ _ _ _ _ (he _ _ (by simp [lb_at])) (he _ _ (by simp [lb_at])))) ?_
    simp
    try (simp)
    repeat (refine sR ?_; simp)
    refine sT ?_
    try simp only [AU]
    refine ⟨by simp, sF hbox htok (fun _ h => h) (Nat.le_refl _) ?_⟩
    simp [packA, hR3]
   ·have b3 : (c.kind == 3) = false := by simp [k3]
    simp only [b3]
    refine sC ?_
    simp
    try (simp)
    repeat (refine sR ?_; simp)
    by_cases k4 : c.kind = 4
    ·have b4 : (c.kind == 4) = true := by simp [k4]
     have hii : c.inn a = a := if_neg (by rw [k4]; decide)
     rw [hii] at ih
     have hR4 : c.hol g m = anyC (fun x => x.hol g m) c.kids := by
      rw [hR, holStep, if_neg k2, if_neg k3, if_pos k4, anyC, List.any_map]
      rfl
     simp only [b4]
     refine sC ?_
     simp
     try (simp)
     repeat (refine sR ?_; simp)
     refine Stop.of_b (containsFuncC_c c.kids 145 [.ptr (nb + 4) 0 0, .ptr (nb + 5) 0 0] (fun x => x.hol g m) hkb _ _ _ _ hcap (fun x hx box' nb' he => yes66_c x g m _ (ih x hx m hm) _ _ _ _ _ _ (he _ _ (by simp [lb_at])) (he _ _ (by simp [lb_at])))) ?_
     simp
     try (simp)
     repeat (refine sR ?_; simp)
     refine sT ?_
     try simp only [AU]
     refine ⟨by simp, sF hbox htok (fun _ h => h) (Nat.le_refl _) ?_⟩
     simp [packA, hR4]
    ·have b4 : (c.kind == 4) = false := by simp [k4]
     simp only [b4]
     refine sC ?_
     simp
     try (simp)
     repeat (refine sR ?_; simp)
     by_cases k5 : c.kind = 5
     ·have b5 : (c.kind == 5) = true := by simp [k5]
      simp only [b5]
      refine sC ?_
      simp
      try (simp)
      repeat (refine sR ?_; simp)
      have hii : c.inn a = c.g := if_pos k5
      rw [hii] at ih
      have hlt : 0 < c.kids.length := hsk (.inr k5)
      have hvm : validM a c.g c.m = 0 := by
       have h := hst
       unfold ovrStep at h
       rw [if_pos k5] at h
       split at h
       ·contradiction
       ·rename_i h1; simpa using h1
      have V := validM_VM hvm
      have hgc := hb.g
      have c1 : c.m.nodes.length = m.nodes.length := V.ln.trans hm.n.symm
      have c2 : c.m.edges.length = m.edges.length := V.le.trans hm.e.symm
      have c3 := hb.m.n
      have c4 := hb.m.e
      refine Stop.of_d (images69_c c.g.nodes.length c.m.nodes m.nodes hgc.n c3 (by omega) V.n _ _) ?_
      simp
      try (simp)
      repeat (refine sR ?_; simp)
      refine Stop.of_d (images69_c c.g.edges.length c.m.edges m.edges hgc.e c4 (by omega) V.e _ _) ?_
      simp
      have l1 : (imgK c.g.nodes.length c.m.nodes m.nodes c.m.nodes.length).length = c.g.nodes.length := imgK_len _ _ _ _
      have l2 : (imgK c.g.edges.length c.m.edges m.edges c.m.edges.length).length = c.g.edges.length := imgK_len _ _ _ _
      have n1 := imgK_neg (n := c.g.nodes.length) (by' := c.m.nodes) hm.nn (by omega) c.m.nodes.length (Nat.le_refl _)
      have n2 := imgK_neg (n := c.g.edges.length) (by' := c.m.edges) hm.ne (by omega) c.m.edges.length (Nat.le_refl _)
      have hR5 : c.hol g m = nodeB c.g g (fun q => Cd.hol c.kids[0] g q) (imgK c.g.edges.length c.m.edges m.edges c.m.edges.length) c.g.nodes.length (imgK c.g.nodes.length c.m.nodes m.nodes c.m.nodes.length) := by
       rw [hR, holStep, if_neg k2, if_neg k3, if_neg k4, if_pos k5]
       congr 1
       funext q
       match c.kids, hlt with
       | y :: r, _ => rfl
      generalize imgK c.g.nodes.length c.m.nodes m.nodes c.m.nodes.length = N0 at *
      generalize imgK c.g.edges.length c.m.edges m.edges c.m.edges.length = E0 at *
      refine sN ?_
      refine AL.weak (Weaks.mk (l' := [(10, .ptr (nb + 62) 0 0), (3, .ptr (nb + 3) 0 0), (4, .ptr (nb + 4) 0 0), (51, .ex (nt + 1) 1 (rI N0)), (60, .ex (nt + 2 + 1) 1 (rI E0))])
       (loc' := [(62, [[.d (ints c.g.nodes), .d (AM.edges c.g.edges), .d (ints g.nodes), .d (AM.edges g.edges), .ex (nt + 1) 1 (rI N0), .ex (nt + 2 + 1) 1 (rI E0), .d (.raw .nilFunc)]]), (4, [g.cells2]), (3, [c.row])]) (by omega) rfl (by simp [ToL]) (by simp [BoxL])) ?_
      refine AL.trans (Trans.thawI (l' := [(10, .ptr (nb + 62) 0 0), (3, .ptr (nb + 3) 0 0), (4, .ptr (nb + 4) 0 0), (51, .msl (nb + 51) 0 c.g.nodes.length 1), (60, .ex (nt + 2 + 1) 1 (rI E0))])
       (loc' := [(62, [[.d (ints c.g.nodes), .d (AM.edges c.g.edges), .d (ints g.nodes), .d (AM.edges g.edges), .msl (nb + 51) 0 c.g.nodes.length 1, .ex (nt + 2 + 1) 1 (rI E0), .d (.raw .nilFunc)]]), (4, [g.cells2]), (3, [c.row])])
       (nt + 1) 51 N0 51 rfl (by show 51 < 69; decide) rfl (by rw [upd_other _ _ (by omega)]; exact upd_same _ _ _) rfl
       ⟨rfl, .same, rfl, .same, rfl, .same, rfl, thTo_exI l1.symm, rfl, .same, trivial⟩
       ⟨rfl, .one (.cons .same (.cons .same (.cons .same (.cons .same (.cons (thTo_exI l1.symm) (.cons .same (.cons .same .nil))))))), rfl, .same, rfl, .same, trivial⟩) ?_
      refine AL.trans (Trans.thawI (l' := [(10, .ptr (nb + 62) 0 0), (3, .ptr (nb + 3) 0 0), (4, .ptr (nb + 4) 0 0), (51, .msl (nb + 51) 0 c.g.nodes.length 1), (60, .msl (nb + 60) 0 c.g.edges.length 1)])
       (loc' := [(51, rowsI N0), (62, [[.d (ints c.g.nodes), .d (AM.edges c.g.edges), .d (ints g.nodes), .d (AM.edges g.edges), .msl (nb + 51) 0 c.g.nodes.length 1, .msl (nb + 60) 0 c.g.edges.length 1, .d (.raw .nilFunc)]]), (4, [g.cells2]), (3, [c.row])])
       (nt + 2 + 1) 60 E0 60 rfl (by show 60 < 69; decide) rfl (by rw [upd_other _ _ (by omega)]; exact upd_same _ _ _) rfl
       ⟨rfl, .same, rfl, .same, rfl, .same, rfl, .same, rfl, thTo_exI l2.symm, trivial⟩
       ⟨rfl, .same, rfl, .one (.cons .same (.cons .same (.cons .same (.cons .same (.cons .same (.cons (thTo_exI l2.symm) (.cons .same .nil))))))), rfl, .same, rfl, .same, trivial⟩) ?_
      have htt : ∀ t, tok t = true → upd (upd (upd (upd tok (nt + 1) true) (nt + 2 + 1) true) (nt + 1) false) (nt + 2 + 1) false t = true := fun t ht => by
       have := htok t ht
       rw [upd_other _ _ (by omega), upd_other _ _ (by omega), upd_other _ _ (by omega), upd_other _ _ (by omega)]; exact ht
      generalize upd (upd (upd (upd tok (nt + 1) true) (nt + 2 + 1) true) (nt + 1) false) (nt + 2 + 1) false = tok1 at *
      try (simp)
      repeat (refine sR ?_; simp)
      have hF : ExF c.g g (nb + 62) (nb + 51) (nb + 60) (lb nb box [(4, [g.cells2]), (3, [c.row])]) :=
       ⟨hgc, hg, fun e he => validG_edges V.vb e he, by omega, by omega, by omega, by simp [lb_at, lk], by simp [lb_at, lk]⟩
      refine Stop.of_a (node71_c c.g g (fun q => Cd.hol c.kids[0] g q) 149 [.ptr (nb + 3) 0 0, .ptr (nb + 4) 0 0] (nb + 62) (nb + 51) (nb + 60) (lb nb box [(4, [g.cells2]), (3, [c.row])]) hF ?_ ?_ c.g.nodes.length 0 (by omega) N0 E0 _ _ _ _ ?_ n1 n2 (fun j hj => absurd hj (Nat.not_lt_zero _))) ?_
      ·intro c1 hc1
       simp only [List.mem_cons, List.not_mem_nil, or_false] at hc1
       rcases hc1 with rfl | rfl
       ·exact .ptr (by simp [lb_at])
       ·exact .ptr (by simp [lb_at])
      ·intro q box' nb' tok' nt' he q1 q2 q3 q4
       exact acc70_c c _ g q _ hlt rfl (ih _ (List.getElem_mem hlt) q ⟨q1, q2, q3, q4⟩) box' nb' _ _ _ _ (he _ _ (by simp [lb_at])) (he _ _ (by simp [lb_at]))
      ·refine ⟨?_, by simp [lb_at], by simp [lb_at], by simp [lb_at], l1, l2⟩
       refine Ext.of_lk fun s r hs => ?_
       rw [lk_cons, lk_cons] at hs
       by_cases e4 : s = 4
       ·subst e4; simpa [lk_cons] using hs
       ·rw [if_neg (by omega)] at hs
        by_cases e3 : s = 3
        ·subst e3; simpa [lk_cons] using hs
        ·rw [if_neg (by omega)] at hs; simp [lk] at hs
      rintro v m1 ⟨rfl, N', E', hl, hl2, hE', rfl⟩
      try (simp)
      repeat (refine sR ?_; simp)
      refine sT ?_
      try simp only [AU]
      refine ⟨by simp, Fin.gen (by simp [resAs, resA]; rfl) hbox (Nat.le_refl _) (by omega) (fun t ht => ⟨htt t ht, .inr (htok t ht)⟩) (fun k rows _ h => .inl h) (by simp [packA, hR5])⟩
     ·have b5 : (c.kind == 5) = false := by simp [k5]
      simp only [b5]
      refine sC ?_
      simp
      try (simp)
      repeat (refine sR ?_; simp)
      refine sT ?_
      try simp only [AU]
      refine ⟨by simp, sF hbox htok (fun _ h => h) (Nat.le_refl _) ?_⟩
      simp [packA, hR, holStep, k2, k3, k4, k5]
end Go.AM
namespace Go.AM
open Go Go.Proofs
def satR (a : Gr) (c : Cd) (g : Gr) (m : Mo) : Bool × Int := if arrR a g m ≠ 0 then (false, arrR a g m) else if validC a c ≠ 0 then (false, validC a c) else (c.hol g m, 0)
theorem arrR_valid {a b : Gr} {m : Mo} (h : arrR a b m = 0) : validM a b m = 0 ∧ injM a b m = true := by
 unfold arrR at h
 split at h
 ·contradiction
 ·rename_i h1
  split at h
  ·rename_i h2; exact ⟨by simpa using h1, h2⟩
  ·contradiction
theorem arrR_flm {a b : Gr} {m : Mo} (h : arrR a b m = 0) : Flm a m :=
 have V := validM_VM (arrR_valid h).1
 ⟨V.ln, V.le, fun x hx => (V.n x hx).1, fun x hx => (V.e x hx).1⟩
theorem validC_ovr {a : Gr} {c : Cd} (h : validC a c = 0) : validG a = 0 ∧ c.ovr a = 0 ∧ smallC c = 0 := by
 unfold validC at h
 split at h
 ·contradiction
 ·rename_i h1
  split at h
  ·contradiction
  ·rename_i h2; exact ⟨by simpa using h1, by simpa using h2, h⟩
theorem satisfies_c (a : Gr) (c : Cd) (g : Gr) (m : Mo) (ha : a.Fit) (hc : c.Fit) (hg : g.Fit) (hm : m.Fit) (tok : Tks) (nt : Nat) : DCall Tryz.prog 28 [a.av, c.av, g.av, m.av] tok nt (.tup [B (satR a c g m).1, I (satR a c g m).2]) tok nt := by
 intro box nb
 have hi := cdInj_c a g m ha hg hm
 have hv := validC_c a c ha hc
 have hh := fun (h1 : arrR a g m = 0) (h2 : validC a c = 0) => holds43_c _ c (Nat.lt_succ_self _) hc a (validC_ovr h2).2.1 g hg m (arrR_flm h1)
 refine sB Tryz.func28 Tryz.ntmps28 ?_
 intro hbox htok
 simp only at hbox htok
 apply AL.start
 try (simp)
 repeat (refine sR ?_; simp)
 refine Stop.of_d (hi _ _) ?_
 simp
 try (simp)
 repeat (refine sR ?_; simp)
 by_cases h0 : arrR a g m = 0
 ·simp only [h0]
  refine sC ?_
  simp
  try (simp)
  repeat (refine sR ?_; simp)
  refine Stop.of_d (hv _ _) ?_
  simp
  try (simp)
  repeat (refine sR ?_; simp)
  by_cases h1 : validC a c = 0
  ·have hh' := hh h0 h1
   simp only [h1]
   refine sC ?_
   simp
   try (simp)
   repeat (refine sR ?_; simp)
   refine Stop.of_d (hh' _ _) ?_
   simp
   try (simp)
   repeat (refine sR ?_; simp)
   refine sT ?_
   try simp only [AU]
   refine ⟨by simp, sF hbox htok (fun _ h => h) (Nat.le_refl _) ?_⟩
   simp [packA, satR, h0, h1]
  ·have b1 : (validC a c != 0) = true := by simp [h1]
   simp only [b1]
   refine sC ?_
   simp
   try (simp)
   repeat (refine sR ?_; simp)
   refine sT ?_
   try simp only [AU]
   refine ⟨by simp, sF hbox htok (fun _ h => h) (Nat.le_refl _) ?_⟩
   simp [packA, satR, h0, h1]
 ·have b0 : (arrR a g m != 0) = true := by simp [h0]
  simp only [b0]
  refine sC ?_
  simp
  try (simp)
  repeat (refine sR ?_; simp)
  refine sT ?_
  try simp only [AU]
  refine ⟨by simp, sF hbox htok (fun _ h => h) (Nat.le_refl _) ?_⟩
  simp [packA, satR, h0]
end Go.AM
namespace Go.AM
open Go Go.Proofs
structure Inn (m : Mo) (a b : Gr) : Prop where
 ln : m.nodes.length = a.nodes.length
 le : m.edges.length = a.edges.length
 n : ∀ x ∈ m.nodes, 0 ≤ x ∧ x < b.nodes.length
 e : ∀ x ∈ m.edges, 0 ≤ x ∧ x < b.edges.length
theorem Inn.of {a b : Gr} {m : Mo} (h : validM a b m = 0) : Inn m a b := have V := validM_VM h; ⟨V.ln, V.le, V.n, V.e⟩
abbrev St2 := Int × Int
def cdOf (k : Int) (kids : List Cd) : Cd := .mk k kids ⟨[], []⟩ ⟨[], []⟩ [] 0 []
end Go.AM
namespace Go.AM
open Go
variable {P : Program}
theorem EffV.val {o : Oper} {ρ : Operand → AV} {box box' : Bxs} {tok tok' : Nat → Bool} {nt nt' : Nat} {v : AV} (h : EffV P o ρ box tok nt v box' tok' nt') : isVal o.op = true := by
 unfold EffV at h
 split at h
 ·rename_i c ho
  split at h
  ·rename_i f hf
   rw [ho]
   obtain ⟨cal, args, tys⟩ := c
   simp only at hf
   subst hf
   rfl
  ·exact h.elim
 ·exact h.elim
theorem EffV.spec {o : Oper} {ρ : Operand → AV} {box box' : Bxs} {tok tok' : Nat → Bool} {nt nt' : Nat} {v : AV} (h : EffV P o ρ box tok nt v box' tok' nt') :
  ∃ x k i off rows, callPtr o.op = some x ∧ ρ x = .ptr k i off ∧ box' = upd box k (some rows) := by
 unfold EffV at h
 split at h
 ·split at h
  ·split at h
   ·obtain ⟨x, k, i, off, rows, g1, g2, g3, g4, g5⟩ := h
    exact ⟨x, k, i, off, rows, g1, g2, g4⟩
   ·exact h.elim
  ·exact h.elim
 ·exact h.elim
theorem Eff.up {wr : Bool} {base : Nat} {o : Oper} {ρ : Operand → AV} {box box' : Bxs} {tok tok' : Nat → Bool} {nt nt' : Nat} {v : AV} (h : Eff P false base o ρ box tok nt v box' tok' nt') : Eff P wr base o ρ box tok nt v box' tok' nt' := by
 unfold Eff at h ⊢
 cases hc : cls o.op <;> simp only [hc] at h ⊢ <;> first | exact h | exact .inl (t_false h)
theorem Eff.down {wr : Bool} {base : Nat} {o : Oper} {ρ : Operand → AV} {box box' : Bxs} {tok tok' : Nat → Bool} {nt nt' : Nat} {v : AV} (hv : isVal o.op = false) (h : Eff P wr base o ρ box tok nt v box' tok' nt') : Eff P false base o ρ box tok nt v box' tok' nt' := by
 unfold Eff at h ⊢
 cases hc : cls o.op <;> simp only [hc] at h ⊢ <;> first | exact h | skip
 rcases h with h | ⟨_, h⟩
 ·exact .inl h
 ·rw [h.val] at hv; cases hv
theorem Step.up {wr : Bool} {base : Nat} {o : Oper} {S S' : AState} (h : Step P false base o S S') : Step P wr base o S S' := by
 obtain ⟨v, b, t, n, h1, h2⟩ := h
 exact ⟨v, b, t, n, h1.up, h2⟩
def ptrOp3 (o : Op) : Option Operand := match ptrOp o with
 | some p => some p
 | none => callPtr o
def calm (x y : Oper) : Bool := match isVal x.op, isVal y.op with
 | true, true => false
 | true, false => decide (cls y.op = .n) || decide (cls y.op = .r)
 | false, true => decide (cls x.op = .n) || decide (cls x.op = .r)
 | false, false => !clash x y || isPtr x.op && isPtr y.op
theorem load_ptr {o : Oper} (h : cls o.op = .r) : ∃ p, ptrOp o.op = some p := by
 cases hop : o.op <;> rw [hop] at h <;> simp only [cls, reduceCtorEq] at h
 ·exact ⟨_, rfl⟩
 ·split at h <;> first | (rename_i e; cases e; done) | (cases h; done) | simp_all
theorem val_cls {o : Op} (h : isVal o = true) : cls o = .t ∧ ptrOp o = none := by
 unfold isVal at h
 split at h
 ·exact ⟨rfl, rfl⟩
 ·cases h
theorem calm_swap {base : Nat} {x y : Oper} {ρ : Operand → AV} {b0 b1 b2 : Bxs} {t0 t1 t2 : Nat → Bool} {n0 n1 n2 : Nat} {vx vy : AV} (hc : calm x y = true)
  (hk : ∀ p q, ptrOp3 x.op = some p → ptrOp3 y.op = some q → (cls x.op ≠ .r ∨ cls y.op ≠ .r) → ∀ k i off k' i' off', ρ p = .ptr k i off → ρ q = .ptr k' i' off' → k ≠ k')
  (hx : Eff P true base x ρ b0 t0 n0 vx b1 t1 n1) (hy : Eff P true base y ρ b1 t1 n1 vy b2 t2 n2) : ∃ c t n, Eff P true base y ρ b0 t0 n0 vy c t n ∧ Eff P true base x ρ c t n vx b2 t2 n2 := by
 unfold calm at hc
 cases vx' : isVal x.op <;> cases vy' : isVal y.op <;> simp only [vx', vy'] at hc
 ·have dx := hx.down vx'
  have dy := hy.down vy'
  cases hcl : clash x y with
  | false =>
   obtain ⟨c, t, n, h1, h2⟩ := eff_swap hcl dx dy
   exact ⟨c, t, n, h1.up, h2.up⟩
  | true =>
   rw [hcl] at hc
   simp only [Bool.not_true, Bool.false_or, Bool.and_eq_true] at hc
   obtain ⟨p, hp⟩ := Option.isSome_iff_exists.1 hc.1
   obtain ⟨q, hq⟩ := Option.isSome_iff_exists.1 hc.2
   have hp3 : ptrOp3 x.op = some p := by unfold ptrOp3; rw [hp]
   have hq3 : ptrOp3 y.op = some q := by unfold ptrOp3; rw [hq]
   have hr : cls x.op ≠ .r ∨ cls y.op ≠ .r := by
    by_cases e1 : cls x.op = .r
    ·by_cases e2 : cls y.op = .r
     ·simp [clash, e1, e2] at hcl
     ·exact .inr e2
    ·exact .inl e1
   obtain ⟨c, t, n, h1, h2⟩ := eff_far hp hq (hk p q hp3 hq3 hr) dx dy
   exact ⟨c, t, n, h1.up, h2.up⟩
 ·-- the call comes second
  obtain ⟨cy, py⟩ := val_cls vy'
  unfold Eff at hx hy ⊢
  simp only [Bool.or_eq_true, decide_eq_true_eq] at hc
  rcases hc with hc | hc <;> simp only [hc, cy] at hx hy ⊢
  ·obtain ⟨e, rfl, rfl, rfl⟩ := hx
   exact ⟨_, _, _, hy, e, rfl, rfl, rfl⟩
  ·obtain ⟨e, rfl, rfl, rfl⟩ := hx
   obtain ⟨p, hp⟩ := load_ptr hc
   refine ⟨_, _, _, hy, ?_, rfl, rfl, rfl⟩
   rcases hy with ⟨_, rfl⟩ | ⟨_, hv⟩
   ·exact e
   ·obtain ⟨z, k, i, off, rows, g1, g2, rfl⟩ := hv.spec
    refine effR_ptr hp hc e fun k1 i1 off1 h1 => ?_
    exact hk p z (by unfold ptrOp3; rw [hp]) (by unfold ptrOp3; rw [py]; exact g1) (.inr (by rw [cy]; decide)) _ _ _ _ _ _ h1 g2
 ·-- the call comes first
  obtain ⟨cx, px⟩ := val_cls vx'
  unfold Eff at hx hy ⊢
  simp only [Bool.or_eq_true, decide_eq_true_eq] at hc
  rcases hc with hc | hc <;> simp only [hc, cx] at hx hy ⊢
  ·obtain ⟨e, rfl, rfl, rfl⟩ := hy
   exact ⟨_, _, _, ⟨e, rfl, rfl, rfl⟩, hx⟩
  ·obtain ⟨e, rfl, rfl, rfl⟩ := hy
   obtain ⟨q, hq⟩ := load_ptr hc
   refine ⟨_, _, _, ⟨?_, rfl, rfl, rfl⟩, hx⟩
   rcases hx with ⟨_, rfl⟩ | ⟨_, hv⟩
   ·exact e
   ·obtain ⟨z, k, i, off, rows, g1, g2, rfl⟩ := hv.spec
    refine effR_back hq hc (fun k1 i1 off1 h1 => ?_) e
    exact Ne.symm (hk z q (by unfold ptrOp3; rw [px]; exact g1) (by unfold ptrOp3; rw [hq]) (.inl (by rw [cx]; decide)) _ _ _ _ _ _ g2 h1)
 ·cases hc
def regOk3 (ops : Array Oper) : Bool :=
 let an := ancs ops.toList []
 dstUniq ops && (List.range ops.size).all fun i => (match ops[i]? with | some o => (direct o).all fun j => decide (j < i) | none => true) &&
  (List.range i).all fun j => (an.getD i 0).testBit j || (match ops[j]?, ops[i]? with
   | some x, some y => Oper.apart ops x y && calm x y
   | _, _ => false)
def unPairs (ops : Array Oper) : List (Operand × Operand) :=
 let an := ancs ops.toList []
 (List.range ops.size).flatMap fun i => (List.range i).filterMap fun j => if (an.getD i 0).testBit j then none else match ops[j]?, ops[i]? with
  | some x, some y => match ptrOp3 x.op, ptrOp3 y.op with
   | some p, some q => if cls x.op = .r ∧ cls y.op = .r then none else some (p, q)
   | _, _ => none
  | _, _ => none
def FarP (S : AState) : List (Operand × Operand) → Prop
 | [] => True
 | (p, q) :: r => NK (S.ev p) (S.ev q) ∧ FarP S r
theorem FarP.at {S : AState} {p q : Operand} : ∀ {L : List (Operand × Operand)}, FarP S L → (p, q) ∈ L → NK (S.ev p) (S.ev q)
 | (a, b) :: r, h, hm => by
  rcases List.mem_cons.1 hm with e | hm
  ·cases e; exact h.1
  ·exact FarP.at h.2 hm
theorem unPairs_mem {ops : Array Oper} {i j : Nat} {x y : Oper} {p q : Operand} (hx : ops[j]? = some x) (hy : ops[i]? = some y) (hij : j < i) (hb : ((ancs ops.toList []).getD i 0).testBit j = false) (hp : ptrOp3 x.op = some p) (hq : ptrOp3 y.op = some q) (hr : cls x.op ≠ .r ∨ cls y.op ≠ .r) : (p, q) ∈ unPairs ops := by
 have his : i < ops.size := (Array.getElem?_eq_some_iff.1 hy).1
 unfold unPairs
 simp only [List.mem_flatMap, List.mem_range, List.mem_filterMap]
 refine ⟨i, his, j, hij, ?_⟩
 have hnr : ¬ (cls x.op = .r ∧ cls y.op = .r) := fun h => by rcases hr with hr | hr; exact hr h.1; exact hr h.2
 rw [hb, hx, hy]
 simp [hp, hq, hnr]
theorem any_sound3 {n nb base : Nat} {ops : Array Oper} {Q : Exit → Act → World → Prop} {Sf : AState} {G0 : Gh} {w0 : World} {b0 : Bxs} (hreg : regOk3 ops = true) (hal : allocOk ops = true) (hdst : dstOk n ops = true) (hnb : base + n ≤ nb)
  (hfar : FarP Sf (unPairs ops))
  (hQ : ∀ a' w' G', RelS n nb G' Sf a' w' → LeK base G0 w0 b0 G' w' Sf.box → Q .normal a' w') (fuel : Nat) (listed : Array Bool) (rem : List Nat) (S : AState) (a : Act) (w : World) (G : Gh) (hrem : rem = List.range ops.size) (hside : Side ops S)
  (h1 : listed.size = ops.size) (h2 : rem = (List.range ops.size).filter (fun i => !listed.getD i true)) (h3 : rem.length = fuel) (h4 : ∀ i o, ops[i]? = some o → listed.getD i false = true → ∀ j ∈ direct o, listed.getD j false = true)
  (h5 : IRun P true base ops rem S Sf) (h6 : RelS n nb G S a w) (h7 : ∀ i ∈ rem, ∀ o, ops[i]? = some o → Pend P base o G S.box) (h8 : LeK base G0 w0 b0 G w S.box) : wpAny P .any ops Q fuel listed a w := by
 unfold regOk3 at hreg
 simp only [Bool.and_eq_true] at hreg
 obtain ⟨hu, hreg⟩ := hreg
 have key : ∀ (i : Nat) (o : Oper), ops[i]? = some o → (∀ j ∈ direct o, j < i) ∧ ∀ j x, ops[j]? = some x → j < i → ((ancs ops.toList []).getD i 0).testBit j = true ∨ x.apart ops o = true ∧ calm x o = true := by
  intro i o ho
  have his : i < ops.size := (Array.getElem?_eq_some_iff.1 ho).1
  have hall := List.all_eq_true.1 hreg i (by simpa using his)
  rw [ho] at hall
  simp only [Bool.and_eq_true] at hall
  refine ⟨fun j hj => by simpa using List.all_eq_true.1 hall.1 j hj, fun j x hx hj => ?_⟩
  have h2 := List.all_eq_true.1 hall.2 j (by simpa using hj)
  rw [hx] at h2
  simpa only [Bool.or_eq_true, Bool.and_eq_true] using h2
 have start : Ivs Sf S := by
  intro t
  by_cases hd : ∃ o ∈ ops.toList, o.dst = some t
  ·obtain ⟨o, ho, hd⟩ := hd
   exact .inr (hside o ho t hd)
  ·refine .inl (irun_keeps (fun j _ x hx hxd => hd ⟨x, by simpa using Array.mem_of_getElem? hx, hxd⟩) h5).symm
 refine any_sound' (wr := true) (fun i o ho => (key i o ho).1) (Iv := Ivs Sf) (fun i o S' S'' rest ho hni hst hrun hiv => ivs_step hu i o S' S'' rest ho hni hst hrun hiv) ?_ hal hdst hnb hQ fuel listed rem S a w G h1 h2 h3 h4 start h5 h6 h7 h8
 intro i j o x ho hx hj hb S' S1 S2 hiv g1 g2
 rcases (key i o ho).2 j x hx hj with h | ⟨h, h'⟩
 ·rw [hb] at h; cases h
 ·refine gstep_swap' h (fun {c0 c1 c2 s0 s1 s2 m0 m1 m2 vx vy} e1 e2 => ?_) g1 g2
  have back : ∀ (z : Operand) k i off, S'.ev z = .ptr k i off → Sf.ev z = .ptr k i off := by
   intro z k i off hz
   cases z with
   | tmp t =>
    rcases hiv t with e | e
    ·exact e.symm.trans hz
    ·have hz' : S'.tmps t = .ptr k i off := hz
     rw [hz'] at e
     exact e.elim
   | const c => exact hz
   | global c => exact hz
   | func c => exact hz
  refine calm_swap h' (fun p q hp hq hr k i1 off k' i2 off' hk hk' => ?_) e1 e2
  have hnk := hfar.at (unPairs_mem hx ho hj hb hp hq hr)
  rw [back p _ _ _ hk, back q _ _ _ hk'] at hnk
  exact hnk
def StopW (P : Program) (o : Oper) (fid : FuncId) (args : List AV) (S : AState) (K : AState → Prop) : Prop :=
 (∃ v tok' nt', RCall P fid args S.box S.tok S.nt v tok' nt' ∧ K ⟨putT S.tmps o.dst v, S.box, tok', nt'⟩) ∨
 ∃ x k i off rows v tok' nt', callPtr o.op = some x ∧ S.ev x = .ptr k i off ∧ S.box k ≠ none ∧ WCall P fid args k S.box S.tok S.nt v rows tok' nt' ∧ K ⟨putT S.tmps o.dst v, upd S.box k (some rows), tok', nt'⟩
def FOneW (P : Program) (cx : Cx) (o : Oper) (K : AState → Prop) (S : AState) : Prop := match callFn o S.ev with
 | some (fid, args) => StopW P o fid args S K
 | none => FOne P cx true o K S
def FOpsW (P : Program) (cx : Cx) (ops : Array Oper) : List Oper → (AState → Prop) → AState → Prop
 | [], K, S => K S
 | o :: r, K, S => match o.guard with
  | none => FOneW P cx o (FOpsW P cx ops r K) S
  | some (j, want) => match yieldA ops S j with
   | some (some b) => Gd b want (FOneW P cx o (FOpsW P cx ops r K)) (FSkip o.dst (FOpsW P cx ops r K)) S
   | some none => FSkip o.dst (FOpsW P cx ops r K) S
   | none => False
theorem fOpsW_true {cx : Cx} {ops : Array Oper} {K : AState → Prop} : ∀ (l : List Oper) (S : AState), FOpsW P cx ops l K S → ∃ S', ARun P true cx.base ops l S S' ∧ K S'
 | [], S, h => ⟨S, rfl, h⟩
 | o :: r, S, h => by
  have one : FOneW P cx o (FOpsW P cx ops r K) S → ∃ S1 S', Step P true cx.base o S S1 ∧ ARun P true cx.base ops r S1 S' ∧ K S' := by
   intro h1
   unfold FOneW at h1
   split at h1
   ·rename_i fid args hc
    unfold callFn at hc
    split at hc
    ·rename_i c ho
     split at hc
     ·rename_i f hcal
      split at hc
      ·rename_i fid' caps hf
       simp only [Option.some.injEq, Prod.mk.injEq] at hc
       obtain ⟨rfl, rfl⟩ := hc
       have hcl : cls o.op = .t := by
        rw [ho]
        obtain ⟨cal, args, tys⟩ := c
        simp only at hcal
        subst hcal
        rfl
       rcases h1 with ⟨v, tok', nt', hd, hk'⟩ | ⟨x, k, i, off, rows, v, tok', nt', g1, g2, g3, hw, hk'⟩
       ·obtain ⟨S', h2, h3⟩ := fOpsW_true r _ hk'
        refine ⟨_, S', ⟨v, S.box, tok', nt', ?_, rfl⟩, h2, h3⟩
        unfold Eff
        rw [hcl]
        refine .inl ⟨.inr ?_, rfl⟩
        unfold EffC
        simp only [ho, hcal, hf]
        exact hd
       ·obtain ⟨S', h2, h3⟩ := fOpsW_true r _ hk'
        refine ⟨_, S', ⟨v, upd S.box k (some rows), tok', nt', ?_, rfl⟩, h2, h3⟩
        unfold Eff
        rw [hcl]
        refine .inr ⟨rfl, ?_⟩
        unfold EffV
        rw [ho] at g1 ⊢
        simp only [hcal, hf]
        exact ⟨x, k, i, off, rows, g1, g2, g3, rfl, hw⟩
      ·cases hc
     ·cases hc
    ·cases hc
   ·rename_i hc
    rcases fOne_cases h1 with ⟨_, S1, hs, hk⟩ | ⟨hdr, _⟩ | ⟨fid, args, hc', hk⟩
    ·obtain ⟨S', h2, h3⟩ := fOpsW_true r S1 hk
     exact ⟨S1, S', hs.up, h2, h3⟩
    ·cases hdr
    ·rw [hc] at hc'; cases hc'
  unfold FOpsW at h
  unfold ARun
  split at h
  ·rename_i hg
   obtain ⟨S1, S', h1, h2, h3⟩ := one h
   exact ⟨S', ⟨S1, by unfold GStep; rw [hg]; exact h1, h2⟩, h3⟩
  ·rename_i j want hg
   split at h
   ·rename_i b hy
    by_cases e : b = want
    ·obtain ⟨S1, S', h1, h2, h3⟩ := one (h.1 e)
     exact ⟨S', ⟨S1, by unfold GStep; rw [hg]; simp only [hy, e, ↓reduceIte]; exact h1, h2⟩, h3⟩
    ·obtain ⟨S', h2, h3⟩ := fOpsW_true r _ (h.2 (by cases b <;> cases want <;> simp_all))
     exact ⟨S', ⟨_, by unfold GStep; rw [hg]; simp only [hy, Option.some.injEq, e, ↓reduceIte], h2⟩, h3⟩
   ·rename_i hy
    obtain ⟨S', h2, h3⟩ := fOpsW_true r _ h
    exact ⟨S', ⟨_, by unfold GStep; rw [hg]; simp only [hy, reduceCtorEq, ↓reduceIte], h2⟩, h3⟩
   ·exact h.elim
def FRegW (P : Program) (cx : Cx) (ops : Array Oper) (K : AState → Prop) (S : AState) : Prop := match preF P cx.base ops.toList S.box with
 | some b => FOpsW P cx ops ops.toList K ⟨S.tmps, b, S.tok, S.nt⟩
 | none => False
theorem AL.region3 {cx : Cx} {nt0 : Nat} {K : Exit → AState → Prop} {r : List CI} {S : AState} {id : Nat} {ops : Array Oper} (hf : P.follows .mixedOrders = true) (hnb : cx.base + cx.n ≤ cx.nb) (hok : (allocOk ops && dstOk cx.n ops && regOk3 ops) = true) (hside : Side ops S) (L : List (Operand × Operand)) (hL : unPairs ops = L)
  (h : FRegW P cx ops (fun S' => FarP S' L ∧ AL P cx nt0 K r S') S) : AL P cx nt0 K (.c (.region id ops true) :: r) S := by
 simp only [AL]
 simp only [Bool.and_eq_true] at hok
 obtain ⟨⟨hal, hdst⟩, hreg⟩ := hok
 intro G0 w0 he hn G a w hr hl
 have hd := dstOk_spec hdst
 have hpre : PreB P cx.base ops.toList S.box fun b => ∃ S', ARun P true cx.base ops ops.toList { S with box := b } S' ∧ FarP S' L ∧ AL P cx nt0 K r S' := by
  unfold FRegW at h
  split at h
  ·rename_i b hb
   exact preF_sound _ _ b hb (fOpsW_true _ _ h)
  ·exact h.elim
 obtain ⟨b, hb, hr1, hp, hkeep⟩ := preB_sound hnb ops.toList S.box (S := S) hr (fun o ho d hod => hd o d (by simpa using ho) hod) (allocOk_nodup hal) hpre
 have hl1 : LeC cx G0 w0 G w { S with box := b } := ⟨hl.1, fun k hk hg => by
  rw [← hl.2 k hk hg]
  refine hkeep k fun hm => ?_
  obtain ⟨o, ho, he⟩ := List.mem_filterMap.1 hm
  split at he
  ·rename_i T s h1 h2
   simp only [Option.some.injEq] at he
   subst he
   exact absurd hk (by simp)
  ·cases he⟩
 obtain ⟨S', hrun, hfar, hK⟩ := hb
 refine wp_region_any hf ?_
 have hrd : RelS cx.n cx.nb G { S with box := b } a w.drew := hr1.drew
 have hld : LeC cx G0 w0 G w.drew { S with box := b } := hl1.step ⟨Le.drew, fun k _ hg => ⟨hg, rfl⟩⟩
 refine any_sound3 (n := cx.n) (nb := cx.nb) (base := cx.base) (Sf := S') (G0 := G) (w0 := w.drew) (b0 := b) hreg hal hdst hnb (by rw [hL]; exact hfar) (fun a' w' G' h1 h2 => ⟨S', G', hK, h1, hld.step h2⟩) ops.size (Array.replicate ops.size false) (List.range ops.size) { S with box := b } a w.drew G rfl hside (by simp) ?_ (by simp) ?_ (IRun.of_all hrun) hrd ?_ (LeK.refl _ _ _ _)
 ·rw [List.filter_eq_self.2]
  intro i hi
  simp at hi
  simp [Array.getD, hi]
 ·intro i o ho hlst
  have hi := (Array.getElem?_eq_some_iff.1 ho).1
  simp [Array.getD, hi] at hlst
 ·intro i _ o ho
  exact hp o (by simpa using Array.mem_of_getElem? ho)
theorem StopW.of_r {o : Oper} {fid : FuncId} {args : List AV} {S : AState} {K : AState → Prop} {v : AV} {tok' : Nat → Bool} {nt' : Nat} (h : RCall P fid args S.box S.tok S.nt v tok' nt') (hk : K ⟨putT S.tmps o.dst v, S.box, tok', nt'⟩) : StopW P o fid args S K := .inl ⟨v, tok', nt', h, hk⟩
theorem StopW.of_d {o : Oper} {fid : FuncId} {args : List AV} {S : AState} {K : AState → Prop} {v : AV} {tok' : Nat → Bool} {nt' : Nat} (h : DCall P fid args S.tok S.nt v tok' nt') (hk : K ⟨putT S.tmps o.dst v, S.box, tok', nt'⟩) : StopW P o fid args S K := .of_r (h.r _) hk
attribute [simp] FRegW FOneW callFn FarP
@[simp] theorem FOpsW_nil {cx : Cx} {ops : Array Oper} {K : AState → Prop} {t : Nat → AV} {b : Bxs} {k : Nat → Bool} {n : Nat} : FOpsW P cx ops [] K ⟨t, b, k, n⟩ = K ⟨t, b, k, n⟩ := by simp only [FOpsW]
@[simp] theorem FOpsW_cons {cx : Cx} {ops : Array Oper} {o : Oper} {r : List Oper} {K : AState → Prop} {t : Nat → AV} {b : Bxs} {k : Nat → Bool} {n : Nat} : FOpsW P cx ops (o :: r) K ⟨t, b, k, n⟩ = match o.guard with
  | none => FOneW P cx o (FOpsW P cx ops r K) ⟨t, b, k, n⟩
  | some (j, want) => match yieldA ops ⟨t, b, k, n⟩ j with
   | some (some g) => Gd g want (FOneW P cx o (FOpsW P cx ops r K)) (FSkip o.dst (FOpsW P cx ops r K)) ⟨t, b, k, n⟩
   | some none => FSkip o.dst (FOpsW P cx ops r K) ⟨t, b, k, n⟩
   | none => False := by
 simp only [FOpsW]
end Go.AM
namespace Go.AM
open Go Go.Proofs
abbrev nilS : AV := .osl 0 [] .full
abbrev z0i : AV := .d (.raw (.int .i64 0))
end Go.AM
namespace Go.AM
open Go Go.Proofs
end Go.AM
namespace Go.AM
open Go Go.Proofs
end Go.AM
namespace Go.AM
open Go
theorem getD_inj {h : List Int} (hn : h.Nodup) {i j : Nat} (hi : i < h.length) (hj : j < h.length) (e : h.getD i 0 = h.getD j 0) : i = j := by
 rw [List.getD_eq_getElem?_getD, List.getD_eq_getElem?_getD, List.getElem?_eq_getElem hi, List.getElem?_eq_getElem hj] at e
 rcases Nat.lt_trichotomy i j with h1 | h1 | h1
 ·exact absurd e (List.pairwise_iff_getElem.1 hn i j hi hj h1)
 ·exact h1
 ·exact absurd e.symm (List.pairwise_iff_getElem.1 hn j i hj hi h1)
theorem injM_iff (a b : Gr) (m : Mo) : injM a b m = true ↔ validM a b m = 0 ∧ m.nodes.Nodup ∧ m.edges.Nodup := by
 simp only [injM, Bool.and_eq_true, decide_eq_true_eq, distK_nodup]
theorem validM_of {a b : Gr} {m : Mo} (h : VM a b m) : validM a b m = 0 := by
 have z1 : firstE (nodeE a b m) a.nodes.length = 0 := firstE_zero _ fun i hi => by
  have := h.n _ (getD_mem (d := 0) (show i < m.nodes.length by rw [h.ln]; exact hi))
  unfold nodeE
  rw [if_neg (by omega), if_pos (h.nt i hi)]
 have z2 : firstE (edgeE a b m) a.edges.length = 0 := firstE_zero _ fun i hi => by
  have := h.e _ (getD_mem (d := 0) (show i < m.edges.length by rw [h.le]; exact hi))
  unfold edgeE
  rw [if_neg (by omega)]
  simp only [h.et i hi, ne_eq, not_true_eq_false, or_self, ↓reduceIte]
 unfold validM
 rw [if_neg (by simp [h.va]), if_neg (by simp [h.vb]), if_neg (by have := h.ln; have := h.le; omega), if_neg (by simp [z1]), z2]
theorem byK_ext {l by' t : List Int} (hl : l.length = t.length) (h : ∀ i, i < l.length → by'.getD (l.getD i 0).toNat 0 = t.getD i 0) : byK l by' l.length = t := by
 apply List.ext_getElem
 ·simp [hl]
 ·intro i h1 h2
  have hi : i < l.length := by omega
  have := h i hi
  simp only [List.getD_eq_getElem?_getD, List.getElem?_eq_getElem hi, List.getElem?_eq_getElem h2, Option.getD_some] at this
  simp only [byK, List.take_length, List.getElem_map, List.getD_eq_getElem?_getD]
  exact this
theorem mem_getD {l : List Int} {v : Int} (h : v ∈ l) : ∃ j, j < l.length ∧ l.getD j 0 = v := by
 obtain ⟨j, hj, e⟩ := List.getElem_of_mem h
 exact ⟨j, hj, by rw [List.getD_eq_getElem?_getD, List.getElem?_eq_getElem hj]; exact e⟩
end Go.AM
namespace Go.AM
open Go Go.Proofs
end Go.AM
namespace Go.AM
open Go Go.Proofs
def chN (ns : List Int) (bit : Nat → Bool) : Nat → List Int × List Int
 | 0 => ([], [])
 | i + 1 => if bit i = true then ((chN ns bit i).1 ++ [ns.getD i 0], (chN ns bit i).2 ++ [(i : Int)]) else chN ns bit i
def atK (ns : List Int) (bit : Nat → Bool) : Nat → List Int
 | 0 => []
 | i + 1 => if bit i = true then atK ns bit i ++ [((chN ns bit i).1.length : Int)] else atK ns bit i ++ [-1]
def atR (ns : List Int) (bit : Nat → Bool) (i : Nat) : List Int := atK ns bit i ++ List.replicate (ns.length - i) 0
theorem atK_len (ns : List Int) (bit : Nat → Bool) : ∀ i, (atK ns bit i).length = i
 | 0 => rfl
 | i + 1 => by
  simp only [atK]
  split <;> simp [atK_len ns bit i]
@[simp] theorem atR_len (ns : List Int) (bit : Nat → Bool) {i : Nat} (h : i ≤ ns.length) : (atR ns bit i).length = ns.length := by simp [atR, atK_len]; omega
end Go.AM
namespace Go.AM
open Go
end Go.AM
namespace Go.AM
open Go
end Go.AM
namespace Go.AM
open Go Go.Proofs
theorem nodup_getD {l : List Int} : l.Nodup ↔ ∀ i j, i < j → j < l.length → l.getD i 0 ≠ l.getD j 0 := by
 unfold List.Nodup
 rw [List.pairwise_iff_getElem]
 constructor
 ·intro h i j hij hj
  have := h i j (by omega) hj hij
  simpa [hj, show i < l.length by omega] using this
 ·intro h i j hi hj hij
  have := h i j hij hj
  simpa [hi, hj] using this
theorem ext_getD {l l' : List Int} (h : l.length = l'.length) (h2 : ∀ j, j < l.length → l.getD j 0 = l'.getD j 0) : l = l' :=
 List.ext_getElem h fun i h1 h3 => by have := h2 i h1; simpa [h1, h3] using this
theorem set_getD_same {l : List Int} {i : Nat} (h : i < l.length) (v : Int) : (l.set i v).getD i 0 = v := by simp [h]
theorem set_getD_other {l : List Int} {i j : Nat} (h : j ≠ i) (v : Int) : (l.set i v).getD j 0 = l.getD j 0 := by
 simp [List.getElem?_set, show ¬ i = j by omega]
def srch (ok : Nat → Nat → Bool) (n m : Nat) (fin : List Int → Bool) : Nat → List Int → Bool
 | 0, L => fin L
 | r + 1, L => if 0 ≤ L.getD (n - (r + 1)) 0 then srch ok n m fin r L
  else (List.range m).any fun k => ok (n - (r + 1)) k && !decide ((k : Int) ∈ L) && srch ok n m fin r (L.set (n - (r + 1)) k)
def NN (L : List Int) : Prop := ∀ i j, i < j → j < L.length → 0 ≤ L.getD i 0 → L.getD i 0 ≠ L.getD j 0
structure Fills (ok : Nat → Nat → Bool) (n m : Nat) (L L' : List Int) : Prop where
 l : L'.length = n
 old : ∀ j, j < n → 0 ≤ L.getD j 0 → L'.getD j 0 = L.getD j 0
 new : ∀ j, j < n → ¬ 0 ≤ L.getD j 0 → ∃ k : Nat, L'.getD j 0 = k ∧ k < m ∧ ok j k = true
 nd : L'.Nodup
theorem srch_iff (ok : Nat → Nat → Bool) (n m : Nat) (fin : List Int → Bool) : ∀ (r : Nat) (L : List Int), L.length = n → r ≤ n → (∀ j, j < n - r → 0 ≤ L.getD j 0) → NN L →
  (srch ok n m fin r L = true ↔ ∃ L', Fills ok n m L L' ∧ fin L' = true)
 | 0, L, hl, _, hp, hn => by
  simp only [srch]
  constructor
  ·intro h
   exact ⟨L, ⟨hl, fun _ _ _ => rfl, fun j hj h0 => absurd (hp j (by omega)) h0, nodup_getD.2 fun i j hij hj => hn i j hij hj (hp i (by omega))⟩, h⟩
  ·rintro ⟨L', h, h5⟩
   have : L' = L := ext_getD (by rw [h.l, hl]) fun j hj => h.old j (by rw [← h.l]; exact hj) (hp j (by have := h.l; omega))
   rwa [this] at h5
 | r + 1, L, hl, hr, hp, hn => by
  obtain ⟨i, hid⟩ : ∃ i, n - (r + 1) = i := ⟨_, rfl⟩
  have hi : i < n := by omega
  simp only [srch, hid]
  rw [hid] at hp
  by_cases h0 : 0 ≤ L.getD i 0
  ·rw [if_pos h0]
   refine srch_iff ok n m fin r L hl (by omega) (fun j hj => ?_) hn
   by_cases e : j = i
   ·subst e; exact h0
   ·exact hp j (by omega)
  ·rw [if_neg h0, List.any_eq_true]
   have g1 : ∀ (k : Nat) j, j ≠ i → (L.set i (k : Int)).getD j 0 = L.getD j 0 := fun k j e => set_getD_other e _
   have g2 : ∀ k : Nat, (L.set i (k : Int)).getD i 0 = k := fun k => set_getD_same (by omega) _
   have ihk : ∀ k : Nat, (k : Int) ∉ L → (srch ok n m fin r (L.set i (k : Int)) = true ↔ ∃ L', Fills ok n m (L.set i (k : Int)) L' ∧ fin L' = true) := fun k hk => by
    refine srch_iff ok n m fin r _ (by simp [hl]) (by omega) (fun j hj => ?_) fun a b hab hb ha => ?_
    ·by_cases e : j = i
     ·subst e; rw [g2]; omega
     ·rw [g1 k j e]; exact hp j (by omega)
    ·simp only [List.length_set] at hb
     by_cases ea : a = i
     ·subst ea
      rw [g2, g1 k b (by omega)]
      exact fun e => hk (e ▸ getD_mem hb)
     ·rw [g1 k a ea] at ha ⊢
      by_cases eb : b = i
      ·subst eb
       rw [g2]
       exact fun e => hk (e ▸ getD_mem (by omega))
      ·rw [g1 k b eb]
       exact hn a b hab hb ha
   constructor
   ·rintro ⟨k, hk, hb⟩
    simp only [List.mem_range] at hk
    simp only [Bool.and_eq_true, Bool.not_eq_true', decide_eq_false_iff_not] at hb
    obtain ⟨⟨ho, hm⟩, hs⟩ := hb
    obtain ⟨L', a, a5⟩ := (ihk k hm).1 hs
    refine ⟨L', ⟨a.l, fun j hj hj0 => ?_, fun j hj hj0 => ?_, a.nd⟩, a5⟩
    ·have hne : j ≠ i := fun e => h0 (e ▸ hj0)
     rw [a.old j hj (by rw [g1 k j hne]; exact hj0), g1 k j hne]
    ·by_cases e : j = i
     ·subst e
      exact ⟨k, by rw [a.old j hj (by rw [g2]; omega), g2], hk, ho⟩
     ·exact a.new j hj (by rw [g1 k j e]; exact hj0)
   ·rintro ⟨L', a, a5⟩
    obtain ⟨k, k1, k2, k3⟩ := a.new i hi h0
    have hm : (k : Int) ∉ L := fun hmem => by
     obtain ⟨j, hj, hje⟩ := mem_getD hmem
     have hne : j ≠ i := fun e => by subst e; rw [hje] at h0; omega
     have h1 := a.old j (by omega) (by rw [hje]; omega)
     have h2 : L'.getD j 0 = L'.getD i 0 := by rw [h1, hje, k1]
     exact hne (getD_inj a.nd (by rw [a.l]; omega) (by rw [a.l]; omega) h2)
    refine ⟨k, by simpa using k2, ?_⟩
    simp only [Bool.and_eq_true, Bool.not_eq_true', decide_eq_false_iff_not]
    refine ⟨⟨k3, hm⟩, (ihk k hm).2 ⟨L', ⟨a.l, fun j hj hj0 => ?_, fun j hj hj0 => ?_, a.nd⟩, a5⟩⟩
    ·by_cases e : j = i
     ·subst e; rw [g2, k1]
     ·rw [g1 k j e] at hj0 ⊢; exact a.old j hj hj0
    ·by_cases e : j = i
     ·subst e; rw [g2] at hj0; omega
     ·rw [g1 k j e] at hj0; exact a.new j hj hj0
theorem img_spec {n : Nat} {by' m : List Int} (hr : ∀ x ∈ by', 0 ≤ x ∧ x < n) (hnd : by'.Nodup) : ∀ i, i ≤ by'.length →
  (∀ j, j < i → (imgK n by' m i).getD (by'.getD j 0).toNat 0 = m.getD j 0) ∧ ∀ x : Nat, x < n → (∀ j, j < i → by'.getD j 0 ≠ x) → (imgK n by' m i).getD x 0 = -1
 | 0, _ => ⟨fun j hj => absurd hj (Nat.not_lt_zero _), fun x hx _ => by simp [imgK, hx]⟩
 | i + 1, hi => by
  obtain ⟨h1, h2⟩ := img_spec (m := m) hr hnd i (by omega)
  have hb := hr _ (getD_mem (d := 0) (show i < by'.length by omega))
  have hlt : (by'.getD i 0).toNat < (imgK n by' m i).length := by rw [imgK_len]; omega
  refine ⟨fun j hj => ?_, fun x hx hno => ?_⟩
  ·simp only [imgK]
   by_cases e : j = i
   ·subst e; exact set_getD_same hlt _
   ·have hb' := hr _ (getD_mem (d := 0) (show j < by'.length by omega))
    have hne : (by'.getD j 0).toNat ≠ (by'.getD i 0).toNat := fun e' => e (getD_inj hnd (by omega) (by omega) (by omega))
    rw [set_getD_other hne]
    exact h1 j (by omega)
  ·simp only [imgK]
   have := hno i (by omega)
   rw [set_getD_other (by omega)]
   exact h2 x hx fun j hj => hno j (by omega)
theorem img_cases {n : Nat} {by' m : List Int} (hr : ∀ x ∈ by', 0 ≤ x ∧ x < n) (hnd : by'.Nodup) (x : Nat) (hx : x < n) :
  (∃ j, j < by'.length ∧ by'.getD j 0 = x ∧ (imgK n by' m by'.length).getD x 0 = m.getD j 0) ∨ (∀ j, j < by'.length → by'.getD j 0 ≠ x) ∧ (imgK n by' m by'.length).getD x 0 = -1 := by
 obtain ⟨h1, h2⟩ := img_spec (m := m) hr hnd by'.length (Nat.le_refl _)
 by_cases h : ∃ j, j < by'.length ∧ by'.getD j 0 = x
 ·obtain ⟨j, hj, e⟩ := h
  refine .inl ⟨j, hj, e, ?_⟩
  have := h1 j hj
  rwa [e, Int.toNat_natCast] at this
 ·have h' : ∀ j, j < by'.length → by'.getD j 0 ≠ x := fun j hj e => h ⟨j, hj, e⟩
  exact .inr ⟨h', h2 x hx h'⟩
theorem img_NN {n : Nat} {by' m : List Int} (hr : ∀ x ∈ by', 0 ≤ x ∧ x < n) (hnd : by'.Nodup) (hl : by'.length = m.length) (hm : m.Nodup) (hp : ∀ x ∈ m, 0 ≤ x) : NN (imgK n by' m by'.length) := fun i j hij hj h0 he => by
 rw [imgK_len] at hj
 rcases img_cases (m := m) hr hnd i (by omega) with ⟨k, k1, k2, k3⟩ | ⟨_, k3⟩
 ·rcases img_cases (m := m) hr hnd j hj with ⟨q, q1, q2, q3⟩ | ⟨_, q3⟩
  ·rw [k3, q3] at he
   have := getD_inj hm (by omega) (by omega) he
   subst this
   omega
  ·have := hp _ (getD_mem (d := 0) (show k < m.length by omega))
   omega
 ·omega
structure Emb (a b : Gr) (m : Mo) : Prop where
 v : validM a b m = 0
 n : m.nodes.Nodup
 e : m.edges.Nodup
theorem Emb.vm {a b : Gr} {m : Mo} (h : Emb a b m) : VM a b m := validM_VM h.v
theorem Emb.inj {a b : Gr} {m : Mo} (h : Emb a b m) : injM a b m = true := (injM_iff a b m).2 ⟨h.v, h.n, h.e⟩
theorem Emb.of {a b : Gr} {m : Mo} (h : injM a b m = true) : Emb a b m := have h := (injM_iff a b m).1 h; ⟨h.1, h.2.1, h.2.2⟩
theorem Emb.inn {a b : Gr} {m : Mo} (h : Emb a b m) : Inn m a b := have V := h.vm; ⟨V.ln, V.le, V.n, V.e⟩
theorem byK_all (l h : List Int) : (byK l h l.length).length = l.length := by simp
theorem byK_getD {l h : List Int} {i : Nat} (hi : i < l.length) : (byK l h l.length).getD i 0 = h.getD (l.getD i 0).toNat 0 := by simp [byK, hi]
theorem nat_of {x : Int} {n : Nat} (h : 0 ≤ x ∧ x < n) : x.toNat < n ∧ ((x.toNat : Nat) : Int) = x := by omega
theorem byK_nodup {l h : List Int} {n : Nat} (hl : l.Nodup) (hh : h.Nodup) (hr : ∀ x ∈ l, 0 ≤ x ∧ x < h.length) : (byK l h l.length).Nodup := by
 rw [nodup_getD]
 intro i j hij hj
 rw [byK_all] at hj
 rw [byK_getD (by omega), byK_getD hj]
 intro e
 have h1 := hr _ (getD_mem (d := 0) (show i < l.length by omega))
 have h2 := hr _ (getD_mem (d := 0) hj)
 have := getD_inj hh (by omega) (by omega) e
 have := getD_inj hl (show i < l.length by omega) hj (by omega)
 omega
theorem Emb.comp {a b c : Gr} {m n : Mo} (h : Emb a b m) (k : Emb b c n) : Emb a c (thenM m n) := by
 have v := h.vm
 have w := k.vm
 have rn : ∀ x ∈ m.nodes, 0 ≤ x ∧ x < n.nodes.length := fun x hx => by rw [w.ln]; exact v.n x hx
 have re : ∀ x ∈ m.edges, 0 ≤ x ∧ x < n.edges.length := fun x hx => by rw [w.le]; exact v.e x hx
 have gn : ∀ i, i < a.nodes.length → (thenM m n).nodes.getD i 0 = n.nodes.getD (m.nodes.getD i 0).toNat 0 := fun i hi => byK_getD (by rw [v.ln]; exact hi)
 have ge : ∀ i, i < a.edges.length → (thenM m n).edges.getD i 0 = n.edges.getD (m.edges.getD i 0).toNat 0 := fun i hi => byK_getD (by rw [v.le]; exact hi)
 refine ⟨validM_of ⟨v.va, w.vb, by rw [← v.ln]; exact byK_all _ _, by rw [← v.le]; exact byK_all _ _, fun x hx => ?_, fun x hx => ?_, fun i hi => ?_, fun i hi => ?_⟩, byK_nodup (n := 0) h.n k.n rn, byK_nodup (n := 0) h.e k.e re⟩
 ·obtain ⟨i, hi, rfl⟩ := mem_getD hx
  have hi' : i < a.nodes.length := by rw [← v.ln]; simpa [thenM] using hi
  rw [gn i hi']
  exact w.n _ (getD_mem (nat_of (rn _ (getD_mem (by rw [v.ln]; exact hi')))).1)
 ·obtain ⟨i, hi, rfl⟩ := mem_getD hx
  have hi' : i < a.edges.length := by rw [← v.le]; simpa [thenM] using hi
  rw [ge i hi']
  exact w.e _ (getD_mem (nat_of (re _ (getD_mem (by rw [v.le]; exact hi')))).1)
 ·rw [gn i hi]
  have h1 := nat_of (v.n _ (getD_mem (d := 0) (show i < m.nodes.length by rw [v.ln]; exact hi)))
  rw [w.nt _ h1.1, v.nt i hi]
 ·rw [ge i hi]
  have h1 := nat_of (v.e _ (getD_mem (d := 0) (show i < m.edges.length by rw [v.le]; exact hi)))
  rw [w.et _ h1.1, v.et i hi]
  have hx := validG_edges v.va (a.edges.getD i default) (getD_mem hi)
  simp only
  rw [gn _ (by omega), gn _ (by omega)]
theorem edgeB_srch (p g : Gr) (acc : Mo → Bool) (N : List Int) : ∀ r Es, edgeB p g acc N r Es = srch (fun i k => decide (g.edges.getD k default = wantX p N i)) p.edges.length g.edges.length (fun E => acc ⟨N, E⟩) r Es
 | 0, Es => rfl
 | r + 1, Es => by simp only [edgeB, srch, edgeB_srch p g acc N r]
theorem nodeB_srch (p g : Gr) (acc : Mo → Bool) (Es : List Int) : ∀ r N, nodeB p g acc Es r N = srch (fun i k => decide (g.nodes.getD k 0 = p.nodes.getD i 0)) p.nodes.length g.nodes.length (fun N => edgeB p g acc N p.edges.length Es) r N
 | 0, N => rfl
 | r + 1, N => by simp only [nodeB, srch, nodeB_srch p g acc Es r]
theorem exists_iff {a p g : Gr} {x m : Mo} (hx : Emb a p x) (hm : Emb a g m) (acc : Mo → Bool) :
  nodeB p g acc (imgK p.edges.length x.edges m.edges x.edges.length) p.nodes.length (imgK p.nodes.length x.nodes m.nodes x.nodes.length) = true ↔ ∃ q, Emb p g q ∧ thenM x q = m ∧ acc q = true := by
 have v := hx.vm
 have w := hm.vm
 have nn1 := img_NN (m := m.nodes) v.n hx.n (by rw [v.ln, w.ln]) hm.n (fun y hy => (w.n y hy).1)
 have nn2 := img_NN (m := m.edges) v.e hx.e (by rw [v.le, w.le]) hm.e (fun y hy => (w.e y hy).1)
 have cn := fun i hi => img_cases (m := m.nodes) v.n hx.n i hi
 have ce := fun i hi => img_cases (m := m.edges) v.e hx.e i hi
 have ea := validG_edges v.va
 have ep := validG_edges v.vb
 rw [nodeB_srch, srch_iff _ _ _ _ _ _ (imgK_len _ _ _ _) (Nat.le_refl _) (fun j hj => by omega) nn1]
 constructor
 ·rintro ⟨N, fN, hN⟩
  rw [edgeB_srch, srch_iff _ _ _ _ _ _ (imgK_len _ _ _ _) (Nat.le_refl _) (fun j hj => by omega) nn2] at hN
  obtain ⟨E', fE, hE⟩ := hN
  -- the images of the places that were given
  have on : ∀ i, i < a.nodes.length → N.getD (x.nodes.getD i 0).toNat 0 = m.nodes.getD i 0 := fun i hi => by
   have hxi := v.n _ (getD_mem (d := 0) (show i < x.nodes.length by rw [v.ln]; exact hi))
   have h1 := (img_spec (m := m.nodes) v.n hx.n _ (Nat.le_refl _)).1 i (by rw [v.ln]; exact hi)
   have h2 := (w.n _ (getD_mem (d := 0) (show i < m.nodes.length by rw [w.ln]; exact hi))).1
   rw [fN.old _ (nat_of hxi).1 (by rw [h1]; exact h2), h1]
  have oe : ∀ i, i < a.edges.length → E'.getD (x.edges.getD i 0).toNat 0 = m.edges.getD i 0 := fun i hi => by
   have hxi := v.e _ (getD_mem (d := 0) (show i < x.edges.length by rw [v.le]; exact hi))
   have h1 := (img_spec (m := m.edges) v.e hx.e _ (Nat.le_refl _)).1 i (by rw [v.le]; exact hi)
   have h2 := (w.e _ (getD_mem (d := 0) (show i < m.edges.length by rw [w.le]; exact hi))).1
   rw [fE.old _ (nat_of hxi).1 (by rw [h1]; exact h2), h1]
  refine ⟨⟨N, E'⟩, ⟨validM_of ⟨v.vb, w.vb, fN.l, fE.l, fun y hy => ?_, fun y hy => ?_, fun j hj => ?_, fun j hj => ?_⟩, fN.nd, fE.nd⟩, ?_, hE⟩
  ·obtain ⟨j, hj, rfl⟩ := mem_getD hy
   rw [fN.l] at hj
   rcases cn j hj with ⟨i, hi, e, e2⟩ | ⟨_, e2⟩
   ·have := on i (by rw [← v.ln]; exact hi)
    rw [e, Int.toNat_natCast] at this
    rw [this]
    exact w.n _ (getD_mem (by rw [w.ln, ← v.ln]; exact hi))
   ·obtain ⟨k, k1, k2, _⟩ := fN.new j hj (by rw [e2]; omega)
    rw [k1]; omega
  ·obtain ⟨j, hj, rfl⟩ := mem_getD hy
   rw [fE.l] at hj
   rcases ce j hj with ⟨i, hi, e, e2⟩ | ⟨_, e2⟩
   ·have := oe i (by rw [← v.le]; exact hi)
    rw [e, Int.toNat_natCast] at this
    rw [this]
    exact w.e _ (getD_mem (by rw [w.le, ← v.le]; exact hi))
   ·obtain ⟨k, k1, k2, _⟩ := fE.new j hj (by rw [e2]; omega)
    rw [k1]; omega
  ·simp only
   rcases cn j hj with ⟨i, hi, e, e2⟩ | ⟨_, e2⟩
   ·have hi' : i < a.nodes.length := by rw [← v.ln]; exact hi
    have h1 := on i hi'
    have h3 := v.nt i hi'
    rw [e, Int.toNat_natCast] at h1 h3
    rw [h1, w.nt i hi', h3]
   ·obtain ⟨k, k1, k2, k3⟩ := fN.new j hj (by rw [e2]; omega)
    rw [k1, Int.toNat_natCast]
    exact of_decide_eq_true k3
  ·simp only
   rcases ce j hj with ⟨i, hi, e, e2⟩ | ⟨_, e2⟩
   ·have hi' : i < a.edges.length := by rw [← v.le]; exact hi
    have h1 := oe i hi'
    have h3 := v.et i hi'
    rw [e, Int.toNat_natCast] at h1 h3
    have hx' := ea (a.edges.getD i default) (getD_mem hi')
    rw [h1, w.et i hi', h3]
    simp only
    rw [on _ (by omega), on _ (by omega)]
   ·obtain ⟨k, k1, k2, k3⟩ := fE.new j hj (by rw [e2]; omega)
    rw [k1, Int.toNat_natCast]
    exact of_decide_eq_true k3
  ·simp only [thenM]
   rw [byK_ext (t := m.nodes) (by rw [v.ln, w.ln]) (fun i hi => on i (by rw [← v.ln]; exact hi)), byK_ext (t := m.edges) (by rw [v.le, w.le]) (fun i hi => oe i (by rw [← v.le]; exact hi))]
 ·rintro ⟨q, hq, he, ha⟩
  have u := hq.vm
  have qn : ∀ i, i < x.nodes.length → q.nodes.getD (x.nodes.getD i 0).toNat 0 = m.nodes.getD i 0 := fun i hi => by rw [← he]; exact (byK_getD hi).symm
  have qe : ∀ i, i < x.edges.length → q.edges.getD (x.edges.getD i 0).toNat 0 = m.edges.getD i 0 := fun i hi => by rw [← he]; exact (byK_getD hi).symm
  refine ⟨q.nodes, ⟨u.ln, fun j hj h0 => ?_, fun j hj h0 => ?_, hq.n⟩, ?_⟩
  ·rcases cn j hj with ⟨i, hi, e, e2⟩ | ⟨_, e2⟩
   ·have := qn i hi
    rw [e, Int.toNat_natCast] at this
    rw [e2, this]
   ·omega
  ·have h1 := nat_of (u.n _ (getD_mem (d := 0) (show j < q.nodes.length by rw [u.ln]; exact hj)))
   exact ⟨_, h1.2.symm, h1.1, decide_eq_true (u.nt j hj)⟩
  ·rw [edgeB_srch, srch_iff _ _ _ _ _ _ (imgK_len _ _ _ _) (Nat.le_refl _) (fun j hj => by omega) nn2]
   refine ⟨q.edges, ⟨u.le, fun j hj h0 => ?_, fun j hj h0 => ?_, hq.e⟩, ha⟩
   ·rcases ce j hj with ⟨i, hi, e, e2⟩ | ⟨_, e2⟩
    ·have := qe i hi
     rw [e, Int.toNat_natCast] at this
     rw [e2, this]
    ·omega
   ·have h1 := nat_of (u.e _ (getD_mem (d := 0) (show j < q.edges.length by rw [u.le]; exact hj)))
    exact ⟨_, h1.2.symm, h1.1, decide_eq_true (u.et j hj)⟩
end Go.AM
namespace Go.AM
open Go Go.Proofs
section
variable {α : Type} {f : α → St2 → List Cd × St2} (hs : ∀ x s, (f x s).2.2 = 0 → s.2 = 0)
include hs
end
theorem ovr_ex {c : Cd} {a : Gr} (h : c.ovr a = 0) (k5 : c.kind = 5) : Emb a c.g c.m ∧ ∃ x, c.kids = [x] := by
 obtain ⟨h0, h1, _⟩ := Cd.ovr_zero h
 have hl := shape_kind h0 k5
 rw [ovrStep, if_pos k5] at h1
 split at h1
 ·contradiction
 ·split at h1
  ·rename_i h2
   exact ⟨Emb.of h2, List.length_eq_one_iff.1 hl⟩
  ·cases h1
end Go.AM
namespace Go.AM
open Go Go.Proofs
mutual
def Cd.cnt : Cd → Nat
 | .mk _ c _ _ _ _ _ => 1 + Cd.cntL c
def Cd.cntL : List Cd → Nat
 | [] => 0
 | x :: r => Cd.cnt x + Cd.cntL r
end
mutual
def Cd.dep : Cd → Nat
 | .mk k c _ _ _ _ _ => Cd.depL c + if k = 5 then 1 else 0
def Cd.depL : List Cd → Nat
 | [] => 0
 | x :: r => max (Cd.dep x) (Cd.depL r)
end
theorem Cd.cnt_eq (c : Cd) : c.cnt = 1 + Cd.cntL c.kids := by cases c; rw [Cd.cnt]; rfl
theorem Cd.dep_eq (c : Cd) : c.dep = Cd.depL c.kids + if c.kind = 5 then 1 else 0 := by cases c; rw [Cd.dep]; rfl
mutual
theorem Cd.dep_cnt : ∀ c : Cd, c.dep ≤ c.cnt
 | .mk k c _ _ _ _ _ => by
  have := Cd.depL_cntL c
  simp only [Cd.dep, Cd.cnt]
  split <;> omega
theorem Cd.depL_cntL : ∀ l : List Cd, Cd.depL l ≤ Cd.cntL l
 | [] => by simp [Cd.depL]
 | x :: r => by
  have h1 := Cd.dep_cnt x
  have h2 := Cd.depL_cntL r
  simp only [Cd.depL, Cd.cntL]
  omega
end
mutual
theorem Cd.meas_cnt : ∀ c : Cd, c.cnt ≤ 4611686018427387904 → c.meas = ((c.cnt : Int), (c.dep : Int))
 | .mk k c _ _ _ _ _, h => by
  simp only [Cd.cnt] at h
  have h1 := Cd.measL_cnt c 1 0 h
  have h2 := Cd.depL_cntL c
  have h3 : Cd.measL c (1, 0) = (((1 + Cd.cntL c : Nat) : Int), ((max 0 (Cd.depL c) : Nat) : Int)) := h1
  rw [Cd.meas]
  simp only [h3, Cd.cnt, Cd.dep, Nat.zero_max]
  split
  ·rw [wrap_in (by omega) (by omega)]; rfl
  ·rfl
theorem Cd.measL_cnt : ∀ (l : List Cd) (s d : Nat), s + Cd.cntL l ≤ 4611686018427387904 → Cd.measL l ((s : Int), (d : Int)) = (((s + Cd.cntL l : Nat) : Int), ((max d (Cd.depL l) : Nat) : Int))
 | [], s, d, _ => by simp [Cd.measL, Cd.cntL, Cd.depL]
 | x :: r, s, d, h => by
  simp only [Cd.cntL] at h
  have h1 := Cd.meas_cnt x (by omega)
  have hw : IntKind.i64.wrap ((s : Int) + (x.cnt : Int)) = ((s + x.cnt : Nat) : Int) := by rw [wrap_in (by omega) (by omega)]; rfl
  have hm : max (d : Int) (x.dep : Int) = ((max d x.dep : Nat) : Int) := by omega
  have h2 := Cd.measL_cnt r (s + x.cnt) (max d x.dep) (by omega)
  simp only [Cd.measL, h1, hw, hm, h2, Cd.cntL, Cd.depL]
  rw [Nat.add_assoc, Nat.max_assoc]
end
theorem Cd.ovr_of {c : Cd} {a : Gr} (h1 : shapeC c = 0) (h2 : ovrStep a c.kind c.m c.g = 0) (h3 : ∀ x ∈ c.kids, x.ovr (c.inn a) = 0) : c.ovr a = 0 := by
 rw [Cd.ovr_eq, if_pos h1, if_pos h2]
 exact errL_all h3
theorem unused_cdOf (k : Int) (l : List Cd) : unusedC (cdOf k l) = true := rfl
theorem plain_cdOf (k : Int) (l : List Cd) : plainC (cdOf k l) = true := rfl
theorem shape_cdOf {c : Cd} (h : shapeC c = 0) (k5 : c.kind ≠ 5) {l : List Cd} (hl : l.length = c.kids.length) : shapeC (cdOf c.kind l) = 0 := by
 unfold shapeC at h
 split at h
 ·rename_i ho
  rw [shapeC, if_pos, if_pos (plain_cdOf _ _)]
  simp only [okC, unused_cdOf, Bool.and_true] at ho ⊢
  have e1 : (cdOf c.kind l).kind = c.kind := rfl
  have e2 : (cdOf c.kind l).kids = l := rfl
  rw [e1, e2, hl]
  split at ho
  ·rename_i q; rw [if_pos q]; exact (Bool.and_eq_true _ _ ▸ ho).1
  ·rename_i q
   rw [if_neg q]
   split at ho
   ·rename_i q; rw [if_pos q]; exact (Bool.and_eq_true _ _ ▸ ho).1
   ·rename_i q
    rw [if_neg q]
    split at ho
    ·rename_i q; rw [if_pos q]; exact (Bool.and_eq_true _ _ ▸ ho).1
    ·rename_i q
     first | cases ho | (rw [if_neg k5] at ho; cases ho)
 ·cases h
end Go.AM
namespace Go.AM
open Go Go.Proofs
theorem fit_nil : Gr.Fit ⟨[], []⟩ := ⟨by simp, by simp⟩
theorem fit_nilM : Mo.Fit ⟨[], []⟩ := ⟨by simp, by simp⟩
theorem cdOf_fit {k : Int} {l : List Cd} (hl : l.length ≤ kidN) (h : ∀ x ∈ l, x.Fit) : (cdOf k l).Fit := .mk hl fit_nilM fit_nil (by rw [bigN_eq]; simp [cdOf, Cd.sl]) (by rw [bigN_eq]; simp [cdOf, Cd.te]) h
end Go.AM
namespace Go.AM
open Go Go.Proofs
def lst {β : Type} (ok : Nat → Nat → Bool) (m : Nat) (fin : List Int → List β) : Nat → List Int → List β
 | 0, L => fin L
 | r + 1, L => (List.range m).flatMap fun (k : Nat) => if (!decide ((k : Int) ∈ L) && ok L.length k) = true then lst ok m fin r (L ++ [(k : Int)]) else []
def atB (by' of : List Int) (i k : Nat) : Bool := decide (indexI by' i < 0) || decide (of.getD (indexI by' i).toNat 0 = k)
def okXE (p g : Gr) (x m : Mo) (N : List Int) (i k : Nat) : Bool := decide (g.edges.getD k default = wantX p N i) && atB x.edges m.edges i k
def okXN (p g : Gr) (x m : Mo) (i k : Nat) : Bool := decide (g.nodes.getD k 0 = p.nodes.getD i 0) && atB x.nodes m.nodes i k
def exE (p g : Gr) (x m : Mo) (N : List Int) (r : Nat) (L : List Int) : List Mo := lst (okXE p g x m N) g.edges.length (fun E => [⟨N, E⟩]) r L
def exN (p g : Gr) (x m : Mo) (r : Nat) (L : List Int) : List Mo := lst (okXN p g x m) g.nodes.length (fun N => exE p g x m N p.edges.length []) r L
abbrev Mo.cells (m : Mo) : List D := [ints m.nodes, ints m.edges]
end Go.AM
namespace Go.AM
open Go Go.Proofs
end Go.AM
namespace Go.AM
open Go Go.Proofs
end Go.AM
namespace Go.AM
open Go Go.Proofs
inductive Cd.Bare : Cd → Prop
 | mk {c : Cd} (hs : c.sl = []) (ht : c.te = []) (h : ∀ x ∈ c.kids, Cd.Bare x) : Cd.Bare c
theorem Cd.Bare.sl {c : Cd} (h : c.Bare) : c.sl = [] := by cases h; assumption
theorem Cd.Bare.te {c : Cd} (h : c.Bare) : c.te = [] := by cases h; assumption
theorem Cd.Bare.kid {c : Cd} (h : c.Bare) : ∀ x ∈ c.kids, Cd.Bare x := by cases h; assumption
theorem bare_cdOf {k : Int} {l : List Cd} (h : ∀ x ∈ l, x.Bare) : (cdOf k l).Bare := .mk rfl rfl h
end Go.AM
namespace Go.AM
open Go Go.Proofs
@[simp] theorem lb_base (base : Nat) (out : Bxs) (loc : List (Nat × List (List AV))) : lb base out loc base = lk loc 0 := lb_at base 0 out loc
@[simp] theorem upd_lb_base (base : Nat) (out : Bxs) (loc : List (Nat × List (List AV))) (rows : List (List AV)) : upd (lb base out loc) base (some rows) = lb base out ((0, rows) :: loc) := upd_lb base 0 out loc rows
@[simp] theorem to_ptr_base {q : Nat → Prop} {fz : Option (Nat × Nat × List (List D))} {base i off : Nat} {out : Bxs} {loc : List (Nat × List (List AV))} : To (fun k => lb base out loc k ≠ none) q fz (.ptr base i off) (.ptr base i off) ↔ lk loc 0 ≠ none := to_ptr_lb (s := 0)
abbrev trueC : Cd := cdOf 1 []
end Go.AM
namespace Go.AM
open Go Go.Proofs
abbrev bytes (l : List Int) : D := .sl 1 (l.map fun n => [u8 n])
def U8s (l : List Int) : Prop := ∀ c ∈ l, 0 ≤ c ∧ c < 256
theorem wrapU8 {n : Int} (h0 : 0 ≤ n) (h1 : n < 256) : IntKind.u8.wrap n = n := IntWalk.u8_in n ⟨h0, by omega⟩
structure CodeA (c : Int) : Prop where
 m2 : c.tmod 2 = c % 2
 d2 : IntKind.u8.wrap (c.tdiv 2) = c / 2
 d4 : IntKind.u8.wrap (c.tdiv 4) = c / 4
 d16 : IntKind.u8.wrap (c.tdiv 16) = c / 16
 w2 : IntKind.i64.wrap (c / 2) = c / 2
 w4 : IntKind.i64.wrap (c / 4) = c / 4
 w16 : IntKind.i64.wrap (c / 16) = c / 16
 t3 : (c / 2).tmod 3 = c / 2 % 3
 t2 : (c / 2).tmod 2 = c / 2 % 2
 n4 : ∀ n : Nat, (c / 4).tmod n = c / 4 % n
 n16 : ∀ n : Nat, (c / 16).tmod n = c / 16 % n
theorem codeA {c : Int} (h0 : 0 ≤ c) (h1 : c < 256) : CodeA c := by
 have e : ∀ k : Int, c.tdiv k = c / k := fun k => Int.tdiv_eq_ediv_of_nonneg h0
 refine ⟨Int.tmod_eq_emod_of_nonneg h0, ?_, ?_, ?_, wrap_in (by omega) (by omega), wrap_in (by omega) (by omega), wrap_in (by omega) (by omega), Int.tmod_eq_emod_of_nonneg (by omega), Int.tmod_eq_emod_of_nonneg (by omega), fun n => Int.tmod_eq_emod_of_nonneg (by omega), fun n => Int.tmod_eq_emod_of_nonneg (by omega)⟩
 ·rw [e]; exact wrapU8 (by omega) (by omega)
 ·rw [e]; exact wrapU8 (by omega) (by omega)
 ·rw [e]; exact wrapU8 (by omega) (by omega)
theorem bytes_at {l : List Int} {i : Nat} (h : i < l.length) : (l.map fun n => [u8 n])[i]? = some [u8 l[i]] := by simp [h]
structure Acc5 where
 i : Nat
 o1 : Own
 o2 : Own
 tok : Nat → Bool
 nt : Nat
theorem AL.midT {cx : Cx} {nt0 : Nat} {K : Exit → AState → Prop} {r : List CI} {S : AState} {x y : Code} {α : Type} (T : α → AState) (inv : α → Prop)
  (h1 : AL Tryz.prog cx nt0 (fun e S' => match e with
   | .normal => ∃ a, inv a ∧ Weaks cx nt0 S' (T a)
   | e => AU Tryz.prog cx nt0 K (.c y :: r) e S') [.c x] S) (h2 : ∀ a, inv a → AL Tryz.prog cx nt0 K (.c y :: r) (T a)) : AL Tryz.prog cx nt0 K (.c x :: .c y :: r) S := by
 have h3 := AL.start h1
 simp only [AL] at h2 ⊢
 refine h3.mono fun e S' h => ?_
 cases e with
 | normal =>
  obtain ⟨a, ha, hw⟩ := h
  exact AT.weaks hw (h2 a ha)
 | _ => exact h
end Go.AM
namespace Go.AM
open Go Go.Proofs
def up (k : Int) (s : St2) : St2 := (s.1 + k, s.2)
theorem byK_iota {n : Nat} {l : List Int} (h : n ≤ l.length) : byK (iota n) l (iota n).length = l.take n := by
 refine ext_getD (by simp; omega) fun j hj => ?_
 rw [byK_all, iota_length] at hj
 rw [byK_getD (by simpa using hj), iota_getD hj, Int.toNat_natCast]
 simp only [List.getD_eq_getElem?_getD]
 rw [List.getElem?_take_of_lt hj]
theorem thenM_id {a : Gr} {n : Mo} (h1 : a.nodes.length ≤ n.nodes.length) (h2 : a.edges.length ≤ n.edges.length) : thenM (idM a) n = ⟨n.nodes.take a.nodes.length, n.edges.take a.edges.length⟩ := by
 simp only [thenM, idM, byK_iota h1, byK_iota h2]
theorem nodup_iota (n : Nat) : (iota n).Nodup := by
 rw [nodup_getD]
 intro i j hij hj
 rw [iota_length] at hj
 rw [iota_getD (by omega), iota_getD hj]
 omega
theorem mem_iota {x : Int} {n : Nat} (h : x ∈ iota n) : 0 ≤ x ∧ x < n := by
 obtain ⟨i, hi, rfl⟩ := List.mem_map.1 h
 have := List.mem_range.1 hi
 omega
structure Pre (a b : Gr) : Prop where
 va : validG a = 0
 vb : validG b = 0
 n : ∃ t, b.nodes = a.nodes ++ t
 e : ∃ t, b.edges = a.edges ++ t
theorem Pre.emb {a b : Gr} (h : Pre a b) : Emb a b (idM a) := by
 obtain ⟨t, ht⟩ := h.n
 obtain ⟨u, hu⟩ := h.e
 have ea := validG_edges h.va
 refine ⟨validM_of ⟨h.va, h.vb, by simp [idM], by simp [idM], fun x hx => ?_, fun x hx => ?_, fun i hi => ?_, fun i hi => ?_⟩, nodup_iota _, nodup_iota _⟩
 ·have := mem_iota (show x ∈ iota a.nodes.length from hx)
  rw [ht]; simp only [List.length_append]; omega
 ·have := mem_iota (show x ∈ iota a.edges.length from hx)
  rw [hu]; simp only [List.length_append]; omega
 ·simp only [idM]
  rw [iota_getD hi, Int.toNat_natCast, ht, getD_pre hi]
 ·simp only [idM]
  have hx := ea (a.edges.getD i default) (getD_mem hi)
  rw [iota_getD hi, Int.toNat_natCast, hu, getD_pre hi, iota_getD (by omega), iota_getD (by omega)]
  rw [Int.toNat_of_nonneg hx.1, Int.toNat_of_nonneg hx.2.2.1]
theorem Pre.refl {a : Gr} (h : validG a = 0) : Pre a a := ⟨h, h, ⟨[], by simp⟩, ⟨[], by simp⟩⟩
end Go.AM
namespace Go.AM
open Go Go.Proofs
theorem within_of {n m : Int} (h0 : 0 ≤ n) (h1 : n ≤ m) : withinB n m = true := by simp [withinB, h0, h1]
theorem pre_node {a : Gr} (h : validG a = 0) (hl : a.nodes.length < 40) {n : Int} (hn : 0 ≤ n ∧ n ≤ 99) : Pre a ⟨a.nodes ++ [n], a.edges⟩ := by
 obtain ⟨h0, h1, h2⟩ := validG_types h
 refine ⟨h, validG_of ⟨by simp; omega, h0.2⟩ (fun x hx => ?_) (fun e he => ?_), ⟨[n], rfl⟩, ⟨[], by simp⟩⟩
 ·rcases List.mem_append.1 hx with hx | hx
  ·exact h1 x hx
  ·rw [List.mem_singleton] at hx; subst hx; exact within_of hn.1 hn.2
 ·have := h2 e he
  rw [fitsB_iff] at this ⊢
  obtain ⟨t1, t2, t3⟩ := this
  simp only [List.length_append, List.length_cons, List.length_nil]
  exact ⟨t1, by omega, by omega⟩
theorem pre_edge {a : Gr} (h : validG a = 0) (hl : a.edges.length < 80) {e : E} (he : fitsB e a.nodes.length = true) : Pre a ⟨a.nodes, a.edges ++ [e]⟩ := by
 obtain ⟨h0, h1, h2⟩ := validG_types h
 refine ⟨h, validG_of ⟨h0.1, by simp; omega⟩ h1 (fun x hx => ?_), ⟨[], by simp⟩, ⟨[e], rfl⟩⟩
 rcases List.mem_append.1 hx with hx | hx
 ·exact h2 x hx
 ·rw [List.mem_singleton] at hx; subst hx; exact he
theorem Pre.trans {a b c : Gr} (h : Pre a b) (k : Pre b c) : Pre a c := by
 obtain ⟨t, ht⟩ := h.n
 obtain ⟨u, hu⟩ := h.e
 obtain ⟨t', ht'⟩ := k.n
 obtain ⟨u', hu'⟩ := k.e
 exact ⟨h.va, k.vb, ⟨t ++ t', by rw [ht', ht, List.append_assoc]⟩, ⟨u ++ u', by rw [hu', hu, List.append_assoc]⟩⟩
structure MkOk (a : Gr) (d n : Nat) (c : Cd) : Prop where
 ovr : c.ovr a = 0
 fit : c.Fit
 dep : c.dep ≤ d
 cnt : c.cnt ≤ n
 bare : c.Bare
theorem trueC_ok {a : Gr} {d n : Nat} (hn : 1 ≤ n) : MkOk a d n trueC := ⟨Cd.ovr_of rfl rfl (by simp [trueC, cdOf, Cd.kids]), cdOf_fit (by rw [kidN_eq]; simp) (by simp), by simp [trueC, cdOf, Cd.dep, Cd.depL], by simp [trueC, cdOf, Cd.cnt, Cd.cntL]; exact hn, bare_cdOf (by simp)⟩
theorem MkOk.valid {a : Gr} {c : Cd} {d n : Nat} (h : MkOk a d n c) (hv : validG a = 0) (hd : d ≤ 3) (hn : n ≤ 2000) : validC a c = 0 := by
 have h1 := h.cnt
 have h2 := h.dep
 rw [validC, if_neg (by simp [hv]), if_neg (by simp [h.ovr]), smallC, Cd.meas_cnt c (by omega)]
 simp only
 rw [if_neg (by omega)]
theorem arr_emb {a b : Gr} {m : Mo} (h : Emb a b m) : arrR a b m = 0 := by
 rw [arrR, if_neg (by simp [h.v]), if_pos h.inj]
theorem sat_emb {a g : Gr} {m : Mo} {c : Cd} (hm : Emb a g m) (hv : validC a c = 0) : satR a c g m = (c.hol g m, 0) := by
 rw [satR, if_neg (by simp [arr_emb hm]), if_neg (by simp [hv])]
end Go.AM
namespace Go.AM
open Go Go.Proofs
structure Ch where
 a : Dr
 b : List Int
 g : List Int
 c : List Int
structure Ch.U8 (x : Ch) : Prop where
 a : x.a.U8
 b : U8s x.b
 g : U8s x.g
 c : U8s x.c
abbrev Ch.av (x : Ch) : AV := .agg [.d (.sl 1 (x.a.nodes.map fun n => [u8 n])), .d (.sl 3 (x.a.edges.map fun e => [u8 e.1, u8 e.2.1, u8 e.2.2])), .d (bytes x.b), .d (bytes x.g), .d (bytes x.c)]
def Ch.ok (x : Ch) : Bool := decide (x.a.nodes.length ≤ 1 ∧ x.a.edges.length ≤ 1 ∧ x.c.length ≤ 12 ∧ x.b.length ≤ 10 ∧ x.g.length ≤ 10)
end Go.AM
namespace Go.AM
open Go
def mtI (F G : List Int) (n : Nat) : List Int := (List.range n).map fun (j : Nat) => if indexI G j < 0 then -1 else F.getD (indexI G j).toNat 0
theorem mtI_len (F G : List Int) (n : Nat) : (mtI F G n).length = n := by simp [mtI]
theorem mtI_get {F G : List Int} {n j : Nat} (h : j < n) : (mtI F G n).getD j 0 = if indexI G j < 0 then -1 else F.getD (indexI G j).toNat 0 := by simp [mtI, h]
theorem mtI_at {F G : List Int} {n i : Nat} (hG : G.Nodup) (hr : ∀ x ∈ G, 0 ≤ x ∧ x < n) (h : i < G.length) : (mtI F G n).getD (G.getD i 0).toNat 0 = F.getD i 0 := by
 have h1 := hr _ (getD_mem (d := 0) h)
 rw [mtI_get (by omega)]
 have e : (((G.getD i 0).toNat : Nat) : Int) = G.getD i 0 := by omega
 rw [e]
 rcases indexI_spec G (G.getD i 0) with ⟨_, hn⟩ | ⟨k, h2, h3, h4⟩
 ·exact absurd (getD_mem (d := 0) h) hn
 ·have := getD_inj hG h3 h h4
  subst this
  rw [h2, if_neg (by omega)]
  rfl
theorem mtI_cases {F G : List Int} {n j : Nat} (h : j < n) : ((mtI F G n).getD j 0 = -1 ∧ (j : Int) ∉ G) ∨ ∃ i, i < G.length ∧ G.getD i 0 = j ∧ (mtI F G n).getD j 0 = F.getD i 0 := by
 rw [mtI_get h]
 rcases indexI_spec G j with ⟨h1, hn⟩ | ⟨k, h2, h3, h4⟩
 ·left; rw [h1]; exact ⟨rfl, hn⟩
 ·right; refine ⟨k, h3, h4, ?_⟩; rw [h2, if_neg (by omega)]; rfl
theorem mtI_isM {ok : Nat → Nat → Bool} {F G : List Int} {na n : Nat} (hl : F.length = G.length) (hF : F.Nodup) (hG : G.Nodup) (rF : ∀ x ∈ F, 0 ≤ x ∧ x < na) (rG : ∀ x ∈ G, 0 ≤ x ∧ x < n)
  (hok : ∀ i, i < G.length → ok (G.getD i 0).toNat (F.getD i 0).toNat = true) : isM ok na n (mtI F G n) := by
 refine ⟨mtI_len _ _ _, fun j hj => ?_⟩
 rcases mtI_cases (F := F) (G := G) hj with ⟨h1, _⟩ | ⟨i, h2, h3, h4⟩
 ·exact .inl h1
 ·right
  have r1 := rF _ (getD_mem (d := 0) (show i < F.length by omega))
  refine ⟨(F.getD i 0).toNat, by rw [h4]; omega, by omega, ?_, ?_⟩
  ·have := hok i h2
   rw [h3] at this
   simpa using this
  ·intro hm
   obtain ⟨q, hq, e⟩ := List.getElem_of_mem hm
   rw [List.length_take, mtI_len] at hq
   rw [List.getElem_take] at e
   have e2 : (mtI F G n).getD q 0 = (F.getD i 0) := by
    rw [List.getD_eq_getElem?_getD, List.getElem?_eq_getElem (by rw [mtI_len]; omega), Option.getD_some, e]; omega
   rcases mtI_cases (F := F) (G := G) (show q < n by omega) with ⟨k1, _⟩ | ⟨i', k2, k3, k4⟩
   ·rw [k1] at e2; omega
   ·have := getD_inj hF (show i' < F.length by omega) (by omega) (k4.symm.trans e2)
    subst this
    omega
def pushO (b c : Gr) (f g : Mo) : Ov := glue b c (mtI f.nodes g.nodes c.nodes.length) (mtI f.edges g.edges c.edges.length)
theorem spn_pair {a b c : Gr} {f g : Mo} (hf : Emb a b f) (hg : Emb a c g) : isPair b c (mtI f.nodes g.nodes c.nodes.length, mtI f.edges g.edges c.edges.length) := by
 have v := hf.vm
 have w := hg.vm
 have ln : f.nodes.length = g.nodes.length := by rw [v.ln, w.ln]
 have le : f.edges.length = g.edges.length := by rw [v.le, w.le]
 refine ⟨mtI_isM ln hf.n hg.n v.n w.n fun i hi => ?_, mtI_isM le hf.e hg.e v.e w.e fun i hi => ?_⟩
 ·rw [okN, decide_eq_true_eq, v.nt i (by rw [← w.ln]; exact hi), w.nt i (by rw [← w.ln]; exact hi)]
 ·have hia : i < a.edges.length := by rw [← w.le]; exact hi
  have hx := validG_edges v.va (a.edges.getD i default) (getD_mem hia)
  rw [okE, decide_eq_true_eq, v.et i hia, w.et i hia]
  simp only
  rw [mtI_at hg.n w.n (by rw [w.ln]; omega), mtI_at hg.n w.n (by rw [w.ln]; omega)]
theorem pushO_emb {a b c : Gr} {f g : Mo} (hf : Emb a b f) (hg : Emb a c g) (hs : b.nodes.length + c.nodes.length ≤ 40 ∧ b.edges.length + c.edges.length ≤ 80) :
  validG (pushO b c f g).g = 0 ∧ Emb b (pushO b c f g).g (pushO b c f g).l ∧ Emb c (pushO b c f g).g (pushO b c f g).r := by
 have hp := spn_pair hf hg
 have h1 := glue_law hf.vm.vb hg.vm.vb hs hp
 have h2 := glue_law2 hf.vm.vb hg.vm.vb hs hp
 exact ⟨h1.1, Emb.of h2.1, Emb.of h2.2.1⟩
end Go.AM
namespace Go.AM
open Go
def ascAt (l : List Int) (n : Int) (i : Nat) : Int := if l.getD i 0 < 0 ∨ n ≤ l.getD i 0 then 6 else if 0 < i ∧ l.getD i 0 ≤ l.getD (i - 1) 0 then 12 else 0
def ascE (l : List Int) (n : Int) : Int := firstE (ascAt l n) l.length
def dangAt (g : Gr) (p : Mo) (i : Nat) : Int := if (g.edges.getD (p.edges.getD i 0).toNat default).fr ∈ p.nodes ∧ (g.edges.getD (p.edges.getD i 0).toNat default).to ∈ p.nodes then 0 else 14
def rightP (g : Gr) (p : Mo) : Int :=
 if ascE p.nodes g.nodes.length ≠ 0 then ascE p.nodes g.nodes.length else if ascE p.edges g.edges.length ≠ 0 then ascE p.edges g.edges.length else firstE (dangAt g p) p.edges.length
def validP (g : Gr) (p : Mo) : Int := if validG g ≠ 0 then validG g else rightP g p
theorem asc_lt {l : List Int} {n : Int} (h : ascE l n = 0) : ∀ j i, i < j → j < l.length → l.getD i 0 < l.getD j 0
 | 0, i, hi, _ => absurd hi (Nat.not_lt_zero _)
 | j + 1, i, hi, hj => by
  have h1 := firstE_all _ h (j + 1) hj
  unfold ascAt at h1
  split at h1
  ·cases h1
  ·split at h1
   ·cases h1
   ·rename_i h3
    have h4 : l.getD j 0 < l.getD (j + 1) 0 := by
     have : j + 1 - 1 = j := rfl
     rw [this] at h3
     omega
    by_cases e : i = j
    ·subst e; exact h4
    ·have := asc_lt h j i (by omega) (by omega)
     omega
theorem asc_rng {l : List Int} {n : Int} (h : ascE l n = 0) : ∀ x ∈ l, 0 ≤ x ∧ x < n := fun x hx => by
 obtain ⟨i, hi, rfl⟩ := mem_getD hx
 have h1 := firstE_all _ h i hi
 unfold ascAt at h1
 split at h1
 ·cases h1
 ·omega
theorem asc_of {l : List Int} {n : Int} (h1 : ∀ x ∈ l, 0 ≤ x ∧ x < n) (h2 : ∀ j i, i < j → j < l.length → l.getD i 0 < l.getD j 0) : ascE l n = 0 := firstE_zero _ fun i hi => by
 have r := h1 _ (getD_mem (d := 0) hi)
 unfold ascAt
 rw [if_neg (by omega), if_neg]
 rintro ⟨h3, h4⟩
 have := h2 i (i - 1) (by omega) hi
 omega
structure VP (g : Gr) (p : Mo) : Prop where
 va : validG g = 0
 n : ∀ x ∈ p.nodes, 0 ≤ x ∧ x < g.nodes.length
 e : ∀ x ∈ p.edges, 0 ≤ x ∧ x < g.edges.length
 sn : ∀ j i, i < j → j < p.nodes.length → p.nodes.getD i 0 < p.nodes.getD j 0
 se : ∀ j i, i < j → j < p.edges.length → p.edges.getD i 0 < p.edges.getD j 0
 c : ∀ x ∈ p.edges, (g.edges.getD x.toNat default).fr ∈ p.nodes ∧ (g.edges.getD x.toNat default).to ∈ p.nodes
theorem VP.of {g : Gr} {p : Mo} (h : validP g p = 0) : VP g p := by
 unfold validP at h
 split at h
 ·contradiction
 ·rename_i h1
  unfold rightP at h
  split at h
  ·contradiction
  ·rename_i h2
   split at h
   ·contradiction
   ·rename_i h3
    have h2' := Decidable.not_not.1 h2
    have h3' := Decidable.not_not.1 h3
    refine ⟨Decidable.not_not.1 h1, asc_rng h2', asc_rng h3', asc_lt h2', asc_lt h3', fun x hx => ?_⟩
    obtain ⟨i, hi, rfl⟩ := mem_getD hx
    have h4 := firstE_all _ h i hi
    unfold dangAt at h4
    split at h4
    ·assumption
    ·cases h4
theorem VP.v {g : Gr} {p : Mo} (h : VP g p) : validP g p = 0 := by
 unfold validP rightP
 rw [if_neg (by simp [h.va]), if_neg (by simp [asc_of h.n h.sn]), if_neg (by simp [asc_of h.e h.se])]
 refine firstE_zero _ fun i hi => ?_
 unfold dangAt
 rw [if_pos (h.c _ (getD_mem (d := 0) hi))]
theorem nodup_of_lt {l : List Int} (h : ∀ j i, i < j → j < l.length → l.getD i 0 < l.getD j 0) : l.Nodup := by
 rw [nodup_getD]
 intro i j hij hj e
 have := h j i hij hj
 omega
theorem len_of {l : List Int} {n : Nat} (h : l.Nodup) (hr : ∀ x ∈ l, 0 ≤ x ∧ x < n) : l.length ≤ n := by
 have := nodup_le l (iota n) h fun x hx => by
  have := hr x hx
  simp only [iota, List.mem_map, List.mem_range]
  exact ⟨x.toNat, by omega, by omega⟩
 simpa [iota] using this
theorem VP.len {g : Gr} {p : Mo} (h : VP g p) : p.nodes.length ≤ g.nodes.length ∧ p.edges.length ≤ g.edges.length := ⟨len_of (nodup_of_lt h.sn) h.n, len_of (nodup_of_lt h.se) h.e⟩
def exE1 (g : Gr) (p : Mo) (k : Int) : E := ⟨(g.edges.getD k.toNat default).ty, indexI p.nodes (g.edges.getD k.toNat default).fr, indexI p.nodes (g.edges.getD k.toNat default).to⟩
def exG (g : Gr) (p : Mo) : Gr := ⟨p.nodes.map fun k => g.nodes.getD k.toNat 0, p.edges.map (exE1 g p)⟩
theorem indexI_in {l : List Int} {x : Int} (h : x ∈ l) : 0 ≤ indexI l x ∧ indexI l x < l.length ∧ l.getD (indexI l x).toNat 0 = x := by
 rcases indexI_spec l x with ⟨_, hn⟩ | ⟨k, h2, h3, h4⟩
 ·exact absurd h hn
 ·rw [h2]; exact ⟨by omega, by omega, h4⟩
theorem indexI_gd {l : List Int} (hl : l.Nodup) {i : Nat} (h : i < l.length) : indexI l (l.getD i 0) = i := by
 obtain ⟨h1, h2, h3⟩ := indexI_in (getD_mem (d := 0) h)
 have := getD_inj hl (show (indexI l (l.getD i 0)).toNat < l.length by omega) h h3
 omega
theorem VP.emb {g : Gr} {p : Mo} (h : VP g p) : Emb (exG g p) g p := by
 have hl := h.len
 obtain ⟨hs, ht, he⟩ := validG_types h.va
 have hv : validG (exG g p) = 0 := by
  refine validG_of (by simp only [exG, List.length_map]; omega) (fun n hn => ?_) fun e hx => ?_
  ·simp only [exG, List.mem_map] at hn
   obtain ⟨k, hk, rfl⟩ := hn
   have := h.n k hk
   exact ht _ (getD_mem (by omega))
  ·simp only [exG, List.mem_map] at hx
   obtain ⟨k, hk, rfl⟩ := hx
   have h1 := h.e k hk
   have h2 := h.c k hk
   have h3 := (fitsB_iff _ _).1 (he _ (getD_mem (d := default) (show k.toNat < g.edges.length by omega)))
   have i1 := indexI_in h2.1
   have i2 := indexI_in h2.2
   rw [fitsB_iff]
   simp only [exE1, exG, List.length_map]
   exact ⟨h3.1, ⟨i1.1, i1.2.1⟩, ⟨i2.1, i2.2.1⟩⟩
 refine ⟨validM_of ⟨hv, h.va, by simp [exG], by simp [exG], h.n, h.e, fun i hi => ?_, fun i hi => ?_⟩, nodup_of_lt h.sn, nodup_of_lt h.se⟩
 ·have hi' : i < p.nodes.length := by simpa [exG] using hi
  simp [exG, hi']
 ·have hi' : i < p.edges.length := by simpa [exG] using hi
  have e1 : (exG g p).edges.getD i default = exE1 g p (p.edges.getD i 0) := by simp [exG, hi']
  have h2 := h.c _ (getD_mem (d := 0) hi')
  rw [e1]
  simp only [exE1]
  rw [(indexI_in h2.1).2.2, (indexI_in h2.2).2.2]
def liftM (q h : Mo) : Mo := ⟨h.nodes.map (indexI q.nodes), h.edges.map (indexI q.edges)⟩
theorem mapI_getD {f : Int → Int} {l : List Int} {i : Nat} (h : i < l.length) : (l.map f).getD i 0 = f (l.getD i 0) := by simp [h]
theorem lift_emb {a c y : Gr} {q h : Mo} (hq : Emb c y q) (hh : Emb a y h) (hn : ∀ x ∈ h.nodes, x ∈ q.nodes) (he : ∀ x ∈ h.edges, x ∈ q.edges) : Emb a c (liftM q h) := by
 have v := hq.vm
 have w := hh.vm
 have inj : ∀ (l m : List Int), m.Nodup → (∀ x ∈ m, x ∈ l) → (m.map (indexI l)).Nodup := fun l m hm hs => by
  rw [nodup_getD]
  intro i j hij hj
  rw [List.length_map] at hj
  rw [mapI_getD (by omega), mapI_getD hj]
  intro e
  have i1 := indexI_in (hs _ (getD_mem (d := 0) (show i < m.length by omega)))
  have i2 := indexI_in (hs _ (getD_mem (d := 0) hj))
  have e2 : m.getD i 0 = m.getD j 0 := by rw [← i1.2.2, ← i2.2.2, e]
  have := getD_inj hm (by omega) hj e2
  omega
 refine ⟨validM_of ⟨w.va, v.va, by simp [liftM, w.ln], by simp [liftM, w.le], fun x hx => ?_, fun x hx => ?_, fun i hi => ?_, fun i hi => ?_⟩, inj _ _ hh.n hn, inj _ _ hh.e he⟩
 ·obtain ⟨k, hk, rfl⟩ := List.mem_map.1 hx
  have := indexI_in (hn k hk)
  rw [v.ln] at this
  exact ⟨this.1, this.2.1⟩
 ·obtain ⟨k, hk, rfl⟩ := List.mem_map.1 hx
  have := indexI_in (he k hk)
  rw [v.le] at this
  exact ⟨this.1, this.2.1⟩
 ·have hi' : i < h.nodes.length := by rw [w.ln]; exact hi
  have i1 := indexI_in (hn _ (getD_mem (d := 0) hi'))
  simp only [liftM]
  rw [mapI_getD hi', ← w.nt i hi]
  have := v.nt (indexI q.nodes (h.nodes.getD i 0)).toNat (by rw [← v.ln]; omega)
  rw [← this, i1.2.2]
 ·have hi' : i < h.edges.length := by rw [w.le]; exact hi
  have i1 := indexI_in (he _ (getD_mem (d := 0) hi'))
  have e1 : (liftM q h).edges.getD i 0 = indexI q.edges (h.edges.getD i 0) := mapI_getD hi'
  have hx := validG_edges w.va (a.edges.getD i default) (getD_mem hi)
  have e2 : (liftM q h).nodes.getD (a.edges.getD i default).fr.toNat 0 = indexI q.nodes (h.nodes.getD (a.edges.getD i default).fr.toNat 0) := mapI_getD (by rw [w.ln]; omega)
  have e3 : (liftM q h).nodes.getD (a.edges.getD i default).to.toNat 0 = indexI q.nodes (h.nodes.getD (a.edges.getD i default).to.toNat 0) := mapI_getD (by rw [w.ln]; omega)
  rw [e1, e2, e3]
  have hk : (indexI q.edges (h.edges.getD i 0)).toNat < c.edges.length := by rw [← v.le]; omega
  have t1 := v.et _ hk
  rw [i1.2.2, w.et i hi] at t1
  have hy := validG_edges v.va (c.edges.getD (indexI q.edges (h.edges.getD i 0)).toNat default) (getD_mem hk)
  generalize c.edges.getD (indexI q.edges (h.edges.getD i 0)).toNat default = ce at *
  simp only [E.mk.injEq] at t1
  have j1 : indexI q.nodes (h.nodes.getD (a.edges.getD i default).fr.toNat 0) = ce.fr := by
   rw [t1.2.1, indexI_gd hq.n (by rw [v.ln]; omega)]; omega
  have j2 : indexI q.nodes (h.nodes.getD (a.edges.getD i default).to.toNat 0) = ce.to := by
   rw [t1.2.2, indexI_gd hq.n (by rw [v.ln]; omega)]; omega
  rw [j1, j2, t1.1]
def ascL (l : List Int) (n : Nat) : List Int := ((List.range n).filter fun (k : Nat) => decide ((k : Int) ∈ l)).map fun (k : Nat) => (k : Int)
theorem ascL_mem {l : List Int} {n : Nat} {x : Int} : x ∈ ascL l n ↔ x ∈ l ∧ 0 ≤ x ∧ x < n := by
 simp only [ascL, List.mem_map, List.mem_filter, List.mem_range, decide_eq_true_eq]
 constructor
 ·rintro ⟨k, ⟨h1, h2⟩, rfl⟩; exact ⟨h2, by omega, by omega⟩
 ·rintro ⟨h1, h2, h3⟩; exact ⟨x.toNat, ⟨by omega, by rwa [show ((x.toNat : Nat) : Int) = x by omega]⟩, by omega⟩
theorem ascL_pw (l : List Int) (n : Nat) : (ascL l n).Pairwise (· < ·) := by
 unfold ascL
 rw [List.pairwise_map]
 refine List.Pairwise.filter _ (List.Pairwise.imp (R := (· < ·)) (fun h => by omega) List.pairwise_lt_range)
theorem pw_getD {l : List Int} : l.Pairwise (· < ·) → ∀ j i, i < j → j < l.length → l.getD i 0 < l.getD j 0 := fun h j i hij hj => by
 have := List.pairwise_iff_getElem.1 h i j (by omega) hj hij
 simpa [List.getD_eq_getElem?_getD, hj, show i < l.length by omega] using this
theorem pw_ext : ∀ {l m : List Int}, l.Pairwise (· < ·) → m.Pairwise (· < ·) → (∀ x, x ∈ l ↔ x ∈ m) → l = m
 | [], [], _, _, _ => rfl
 | [], y :: m, _, _, h => by have := (h y).2 (by simp); simp at this
 | x :: l, [], _, _, h => by have := (h x).1 (by simp); simp at this
 | x :: l, y :: m, hl, hm, h => by
  rw [List.pairwise_cons] at hl hm
  have h1 := (h x).1 (by simp)
  have h2 := (h y).2 (by simp)
  have e : x = y := by
   rcases List.mem_cons.1 h1 with h1 | h1
   ·exact h1
   ·rcases List.mem_cons.1 h2 with h2 | h2
    ·exact h2.symm
    ·have := hl.1 y h2
     have := hm.1 x h1
     omega
  subst e
  congr 1
  refine pw_ext hl.2 hm.2 fun z => ?_
  have := h z
  simp only [List.mem_cons] at this
  constructor
  ·intro hz
   rcases this.1 (.inr hz) with e | e
   ·subst e; have := hl.1 z hz; omega
   ·exact e
  ·intro hz
   rcases this.2 (.inr hz) with e | e
   ·subst e; have := hm.1 z hz; omega
   ·exact e
def imgP (y : Gr) (q : Mo) : Mo := ⟨ascL q.nodes y.nodes.length, ascL q.edges y.edges.length⟩
theorem imgP_vp {c y : Gr} {q : Mo} (hq : Emb c y q) : VP y (imgP y q) := by
 have v := hq.vm
 refine ⟨v.vb, fun x hx => (ascL_mem.1 hx).2, fun x hx => (ascL_mem.1 hx).2, pw_getD (ascL_pw _ _), pw_getD (ascL_pw _ _), fun x hx => ?_⟩
 obtain ⟨h1, h2, h3⟩ := ascL_mem.1 hx
 obtain ⟨i, hi, rfl⟩ := mem_getD h1
 have hi' : i < c.edges.length := by rw [← v.le]; exact hi
 have he := validG_edges v.va (c.edges.getD i default) (getD_mem hi')
 have m1 : q.nodes.getD (c.edges.getD i default).fr.toNat 0 ∈ q.nodes := getD_mem (by rw [v.ln]; omega)
 have m2 : q.nodes.getD (c.edges.getD i default).to.toNat 0 ∈ q.nodes := getD_mem (by rw [v.ln]; omega)
 rw [v.et i hi']
 exact ⟨ascL_mem.2 ⟨m1, v.n _ m1⟩, ascL_mem.2 ⟨m2, v.n _ m2⟩⟩
theorem imgP_sub {y : Gr} {q : Mo} : (∀ x ∈ (imgP y q).nodes, x ∈ q.nodes) ∧ ∀ x ∈ (imgP y q).edges, x ∈ q.edges := ⟨fun x hx => (ascL_mem.1 hx).1, fun x hx => (ascL_mem.1 hx).1⟩
def goneI (images keep : List Int) : List Int := ((List.range images.length).filter fun (i : Nat) => decide ((i : Int) ∉ keep)).map fun (i : Nat) => images.getD i 0
def restI (n : Nat) (images keep : List Int) : List Int := ((List.range n).filter fun (k : Nat) => decide ((k : Int) ∉ goneI images keep)).map fun (k : Nat) => (k : Int)
def dangL (g : Gr) (keep m : Mo) : Bool := (List.range g.edges.length).any fun (i : Nat) => decide ((i : Int) ∉ m.edges ∧ ((g.edges.getD i default).fr ∈ goneI m.nodes keep.nodes ∨ (g.edges.getD i default).to ∈ goneI m.nodes keep.nodes))
def cmpl (g : Gr) (keep m : Mo) : Mo := ⟨restI g.nodes.length m.nodes keep.nodes, restI g.edges.length m.edges keep.edges⟩
theorem goneI_mem {images keep : List Int} {x : Int} : x ∈ goneI images keep ↔ ∃ i : Nat, i < images.length ∧ (i : Int) ∉ keep ∧ images.getD i 0 = x := by
 simp only [goneI, List.mem_map, List.mem_filter, List.mem_range, decide_eq_true_eq]
 constructor
 ·rintro ⟨i, ⟨h1, h2⟩, h3⟩; exact ⟨i, h1, h2, h3⟩
 ·rintro ⟨i, h1, h2, h3⟩; exact ⟨i, ⟨h1, h2⟩, h3⟩
theorem restI_mem {n : Nat} {images keep : List Int} {x : Int} : x ∈ restI n images keep ↔ (0 ≤ x ∧ x < n) ∧ x ∉ goneI images keep := by
 simp only [restI, List.mem_map, List.mem_filter, List.mem_range, decide_eq_true_eq]
 constructor
 ·rintro ⟨k, ⟨h1, h2⟩, rfl⟩; exact ⟨⟨by omega, by omega⟩, h2⟩
 ·rintro ⟨⟨h1, h2⟩, h3⟩; exact ⟨x.toNat, ⟨by omega, by rwa [show ((x.toNat : Nat) : Int) = x by omega]⟩, by omega⟩
theorem restI_pw (n : Nat) (images keep : List Int) : (restI n images keep).Pairwise (· < ·) := by
 unfold restI
 rw [List.pairwise_map]
 refine List.Pairwise.filter _ (List.Pairwise.imp (R := (· < ·)) (fun h => by omega) List.pairwise_lt_range)
theorem kept_not_gone {images keep : List Int} (hn : images.Nodup) {i : Nat} (hi : i < images.length) (hk : (i : Int) ∈ keep) : images.getD i 0 ∉ goneI images keep := fun h => by
 obtain ⟨j, hj, hjk, e⟩ := goneI_mem.1 h
 have := getD_inj hn hj hi e
 subst this
 exact hjk hk
theorem cmpl_vp {l g : Gr} {keep m : Mo} (hm : Emb l g m) (hk : VP l keep) (hd : dangL g keep m = false) : VP g (cmpl g keep m) := by
 have v := hm.vm
 refine ⟨v.vb, fun x hx => (restI_mem.1 hx).1, fun x hx => (restI_mem.1 hx).1, pw_getD (restI_pw _ _ _), pw_getD (restI_pw _ _ _), fun x hx => ?_⟩
 obtain ⟨⟨h1, h2⟩, h3⟩ := restI_mem.1 hx
 have hxl : x.toNat < g.edges.length := by omega
 have he := validG_edges v.vb (g.edges.getD x.toNat default) (getD_mem hxl)
 have key : (g.edges.getD x.toNat default).fr ∉ goneI m.nodes keep.nodes ∧ (g.edges.getD x.toNat default).to ∉ goneI m.nodes keep.nodes := by
  by_cases hxm : x ∈ m.edges
  ·obtain ⟨i, hi, rfl⟩ := mem_getD hxm
   have hi' : i < l.edges.length := by rw [← v.le]; exact hi
   have hik : (i : Int) ∈ keep.edges := Decidable.byContradiction fun hc => h3 (goneI_mem.2 ⟨i, hi, hc, rfl⟩)
   have hc := hk.c _ hik
   have hle := validG_edges v.va (l.edges.getD i default) (getD_mem hi')
   rw [Int.toNat_natCast] at hc
   rw [v.et i hi']
   refine ⟨kept_not_gone hm.n (by rw [v.ln]; omega) ?_, kept_not_gone hm.n (by rw [v.ln]; omega) ?_⟩
   ·rw [show (((l.edges.getD i default).fr.toNat : Nat) : Int) = (l.edges.getD i default).fr by omega]; exact hc.1
   ·rw [show (((l.edges.getD i default).to.toNat : Nat) : Int) = (l.edges.getD i default).to by omega]; exact hc.2
  ·unfold dangL at hd
   rw [List.any_eq_false] at hd
   have := hd x.toNat (List.mem_range.2 hxl)
   simp only [decide_eq_true_eq, not_and, not_or] at this
   exact this (by rwa [show ((x.toNat : Nat) : Int) = x by omega])
 exact ⟨restI_mem.2 ⟨⟨he.1, he.2.1⟩, key.1⟩, restI_mem.2 ⟨⟨he.2.2.1, he.2.2.2⟩, key.2⟩⟩
end Go.AM
namespace Go.AM
open Go
structure Sp where
 l : Gr
 r : Gr
 k : Mo
 i : Mo
structure SpOk (s : Sp) : Prop where
 k : VP s.l s.k
 i : Emb (exG s.l s.k) s.r s.i
def Sp.z (s : Sp) (m : Mo) (x : Gr) : Mo := cmpl x (imgP s.r s.i) m
def Sp.dng (s : Sp) (m : Mo) (x : Gr) : Bool := dangL x (imgP s.r s.i) m
def Sp.rest (s : Sp) (m : Mo) (x : Gr) : Gr := exG x (s.z m x)
def Sp.go (s : Sp) (m : Mo) (x : Gr) : Mo := liftM (s.z m x) (thenM s.i m)
def Sp.big (s : Sp) (m : Mo) (x : Gr) : Prop := 40 < s.l.nodes.length + (s.rest m x).nodes.length ∨ 80 < s.l.edges.length + (s.rest m x).edges.length
instance (s : Sp) (m : Mo) (x : Gr) : Decidable (s.big m x) := inferInstanceAs (Decidable (_ ∨ _))
def Sp.po (s : Sp) (m : Mo) (x : Gr) : Ov := pushO s.l (s.rest m x) s.k (s.go m x)
def Sp.inn (s : Sp) (m : Mo) (x : Gr) : Sp := ⟨(s.po m x).g, x, imgP (s.po m x).g (s.po m x).r, thenM (liftM (s.po m x).r (imgP (s.po m x).g (s.po m x).r)) (s.z m x)⟩
theorem VP.sub {g : Gr} {p : Mo} (h : VP g p) : Emb (exG g p) g p := h.emb
theorem Sp.z_vp {s : Sp} (h : SpOk s) {m : Mo} {x : Gr} (hm : Emb s.r x m) (hd : s.dng m x = false) : VP x (s.z m x) := cmpl_vp hm (imgP_vp h.i) hd
theorem keep_mem {F images : List Int} {n m : Nat} (hn : images.Nodup) (hi : images.length = n) (rF : ∀ x ∈ F, 0 ≤ x ∧ x < n) (hr : ∀ x ∈ images, 0 ≤ x ∧ x < m) : ∀ x ∈ byK F images F.length, x ∈ restI m images (ascL F n) := fun x hx => by
 obtain ⟨i, hi', rfl⟩ := mem_getD hx
 rw [byK_all] at hi'
 rw [byK_getD hi']
 have h1 := rF _ (getD_mem (d := 0) hi')
 have h2 : (F.getD i 0).toNat < images.length := by omega
 refine restI_mem.2 ⟨hr _ (getD_mem (d := 0) h2), kept_not_gone hn h2 (ascL_mem.2 ⟨?_, ?_⟩)⟩
 ·rw [show (((F.getD i 0).toNat : Nat) : Int) = F.getD i 0 by omega]; exact getD_mem hi'
 ·omega
theorem Sp.go_sub {s : Sp} (h : SpOk s) {m : Mo} {x : Gr} (hm : Emb s.r x m) : (∀ v ∈ (thenM s.i m).nodes, v ∈ (s.z m x).nodes) ∧ ∀ v ∈ (thenM s.i m).edges, v ∈ (s.z m x).edges := by
 have v := hm.vm
 have w := h.i.vm
 exact ⟨keep_mem hm.n v.ln w.n v.n, keep_mem hm.e v.le w.e v.e⟩
theorem Sp.go_emb {s : Sp} (h : SpOk s) {m : Mo} {x : Gr} (hm : Emb s.r x m) (hd : s.dng m x = false) : Emb (exG s.l s.k) (s.rest m x) (s.go m x) :=
 lift_emb (Sp.z_vp h hm hd).emb (h.i.comp hm) (Sp.go_sub h hm).1 (Sp.go_sub h hm).2
theorem Sp.po_emb {s : Sp} (h : SpOk s) {m : Mo} {x : Gr} (hm : Emb s.r x m) (hd : s.dng m x = false) (hb : ¬ s.big m x) :
  validG (s.po m x).g = 0 ∧ Emb s.l (s.po m x).g (s.po m x).l ∧ Emb (s.rest m x) (s.po m x).g (s.po m x).r :=
 pushO_emb h.k.emb (Sp.go_emb h hm hd) (by unfold Sp.big at hb; omega)
theorem Sp.inn_ok {s : Sp} (h : SpOk s) {m : Mo} {x : Gr} (hm : Emb s.r x m) (hd : s.dng m x = false) (hb : ¬ s.big m x) : SpOk (s.inn m x) := by
 obtain ⟨h1, h2, h3⟩ := Sp.po_emb h hm hd hb
 have hk := imgP_vp h3
 exact ⟨hk, (lift_emb h3 hk.emb imgP_sub.1 imgP_sub.2).comp (Sp.z_vp h hm hd).emb⟩
abbrev noC : Cd := cdOf 2 [cdOf 1 []]
def kidsE (f : Cd → Cd × Int) : List Cd → List Cd × Int
 | [] => ([], 0)
 | x :: r => if (f x).2 ≠ 0 then ([], (f x).2) else if (kidsE f r).2 ≠ 0 then ([], (kidsE f r).2) else ((f x).1 :: (kidsE f r).1, 0)
def lftStep (k : Int) (m : Mo) (g : Gr) (s : Sp) (L H : Sp → List Cd × Int) : Cd × Int :=
 if k ≠ 5 then (if (L s).2 ≠ 0 then (cdOf 0 [], (L s).2) else (cdOf k (L s).1, 0))
 else if s.dng m g = true then (noC, 0) else if s.big m g then (cdOf 0 [], 3)
 else if (H (s.inn m g)).2 ≠ 0 then (cdOf 0 [], (H (s.inn m g)).2) else (.mk 5 (H (s.inn m g)).1 (s.po m g).l (s.po m g).g [] 0 [], 0)
mutual
def Cd.lft : Cd → Sp → Cd × Int
 | .mk k c m g _ _ _, s => lftStep k m g s (fun s => Cd.lftL c s) (fun s => Cd.lftL c s)
def Cd.lftL : List Cd → Sp → List Cd × Int
 | [], _ => ([], 0)
 | x :: r, s => if (Cd.lft x s).2 ≠ 0 then ([], (Cd.lft x s).2) else if (Cd.lftL r s).2 ≠ 0 then ([], (Cd.lftL r s).2) else ((Cd.lft x s).1 :: (Cd.lftL r s).1, 0)
end
theorem Cd.lftL_eq (s : Sp) : ∀ l : List Cd, Cd.lftL l s = kidsE (fun x => Cd.lft x s) l
 | [] => by simp [Cd.lftL, kidsE]
 | x :: r => by simp [Cd.lftL, kidsE, Cd.lftL_eq s r]
theorem Cd.lft_eq (c : Cd) (s : Sp) : c.lft s = lftStep c.kind c.m c.g s (fun s => kidsE (fun x => Cd.lft x s) c.kids) (fun s => kidsE (fun x => Cd.lft x s) c.kids) := by
 cases c
 simp only [Cd.lft, Cd.lftL_eq]
 rfl
theorem kidsE_all {f : Cd → Cd × Int} : ∀ {l : List Cd}, (kidsE f l).2 = 0 → (kidsE f l).1 = l.map (fun x => (f x).1) ∧ ∀ x ∈ l, (f x).2 = 0
 | [], _ => ⟨rfl, by simp⟩
 | x :: r, h => by
  unfold kidsE at h ⊢
  split at h
  ·contradiction
  ·rename_i h1
   split at h
   ·contradiction
   ·rename_i h2
    obtain ⟨i1, i2⟩ := kidsE_all (Decidable.not_not.1 h2)
    rw [if_neg h1, if_neg h2]
    refine ⟨by rw [i1]; rfl, fun y hy => ?_⟩
    rcases List.mem_cons.1 hy with rfl | hy
    ·exact Decidable.not_not.1 h1
    ·exact i2 y hy
theorem kidsE_of {f : Cd → Cd × Int} : ∀ {l : List Cd}, (∀ x ∈ l, (f x).2 = 0) → kidsE f l = (l.map (fun x => (f x).1), 0)
 | [], _ => rfl
 | x :: r, h => by
  have h1 := h x (by simp)
  have ih := kidsE_of (f := f) (l := r) fun y hy => h y (by simp [hy])
  unfold kidsE
  rw [if_neg (by simp [h1]), if_neg (by simp [ih]), ih]
  rfl
theorem kidsE_at {f : Cd → Cd × Int} : ∀ {l : List Cd} {i : Nat} (hi : i < l.length), (∀ x ∈ l.take i, (f x).2 = 0) → (f l[i]).2 ≠ 0 → kidsE f l = ([], (f l[i]).2)
 | x :: r, 0, _, _, h => by
  unfold kidsE
  rw [if_pos (by simpa using h)]
  rfl
 | x :: r, i + 1, hi, ht, h => by
  have h1 := ht x (by simp)
  have hi' : i < r.length := by simpa using hi
  have ih := kidsE_at (f := f) (l := r) (i := i) hi' (fun y hy => ht y (by simp [hy])) (by simpa using h)
  unfold kidsE
  rw [if_neg (by simp [h1]), ih]
  have h2 : (f r[i]).2 ≠ 0 := by simpa using h
  rw [if_pos (by simpa using h2)]
  rfl
structure LftOk (g : Gr) (c : Cd) : Prop where
 ovr : c.ovr g = 0
 fit : c.Fit
 bare : c.Bare
theorem noC_ok (g : Gr) : LftOk g noC :=
 ⟨Cd.ovr_of rfl rfl fun x hx => by
  have : x = cdOf 1 [] := by simpa [cdOf, Cd.kids] using hx
  subst this
  exact Cd.ovr_of rfl rfl (by simp [cdOf, Cd.kids]),
  cdOf_fit (by rw [kidN_eq]; simp) (by simpa using cdOf_fit (k := 1) (l := []) (by rw [kidN_eq]; simp) (by simp)), bare_cdOf (by simpa using bare_cdOf (k := 1) (l := []) (by simp))⟩
theorem lft_ok : ∀ (n : Nat) (c : Cd), SizeOf.sizeOf c < n → c.Fit → ∀ s, SpOk s → c.ovr s.r = 0 → (c.lft s).2 = 0 → LftOk s.l (c.lft s).1
 | 0, c, hn, _, _, _, _, _ => absurd hn (Nat.not_lt_zero _)
 | n + 1, c, hn, hf, s, hs, hv, hz => by
  have ih := fun x (hx : x ∈ c.kids) => lft_ok n x (by have := Cd.kid_lt hx; omega) (hf.kid x hx)
  have hkl := hf.kids
  obtain ⟨h0, h1, h2⟩ := Cd.ovr_zero hv
  rw [c.lft_eq] at hz ⊢
  unfold lftStep at hz ⊢
  by_cases k5 : c.kind = 5
  ·rw [if_neg (by simp [k5])] at hz ⊢
   obtain ⟨hm, x, hkx⟩ := ovr_ex hv k5
   by_cases hd : s.dng c.m c.g = true
   ·rw [if_pos hd]; exact noC_ok _
   ·rw [if_neg hd] at hz ⊢
    have hd' : s.dng c.m c.g = false := by simpa using hd
    by_cases hb : s.big c.m c.g
    ·rw [if_pos hb] at hz; cases hz
    ·rw [if_neg hb] at hz ⊢
     have hk := Sp.inn_ok hs hm hd' hb
     obtain ⟨p1, p2, p3⟩ := Sp.po_emb hs hm hd' hb
     split at hz
     ·contradiction
     ·rename_i h3
      rw [if_neg h3]
      have h3' := Decidable.not_not.1 h3
      rw [hkx] at h3' ⊢
      obtain ⟨e1, e2⟩ := kidsE_all h3'
      have hi : c.inn s.r = c.g := if_pos k5
      rw [hi] at h2
      have hx := ih x (by rw [hkx]; simp) (s.inn c.m c.g) hk (h2 x (by rw [hkx]; simp)) (e2 x (by simp))
      simp only [e1, List.map_cons, List.map_nil]
      have hg := (validG_types p1).1
      have hll : (s.po c.m c.g).l.nodes.length ≤ 40 ∧ (s.po c.m c.g).l.edges.length ≤ 80 := by
       have := p2.vm
       have := (validG_types this.va).1
       have := p2.vm.ln
       have := p2.vm.le
       omega
      refine ⟨Cd.ovr_of rfl ?_ fun y hy => ?_, .mk (by rw [kidN_eq]; simp [Cd.kids]) ⟨by show (s.po c.m c.g).l.nodes.length ≤ 1000000; omega, by show (s.po c.m c.g).l.edges.length ≤ 1000000; omega⟩ ⟨by show (s.po c.m c.g).g.nodes.length ≤ 1000000; omega, by show (s.po c.m c.g).g.edges.length ≤ 1000000; omega⟩ (by rw [bigN_eq]; simp [Cd.sl]) (by rw [bigN_eq]; simp [Cd.te]) fun y hy => ?_, .mk rfl rfl fun y hy => ?_⟩
      ·show ovrStep s.l 5 (s.po c.m c.g).l (s.po c.m c.g).g = 0
       rw [ovrStep, if_pos rfl, if_neg (by simp [p2.v]), if_pos p2.inj]
      ·have : y = (x.lft (s.inn c.m c.g)).1 := by simpa [Cd.kids] using hy
       subst this
       exact hx.ovr
      ·have : y = (x.lft (s.inn c.m c.g)).1 := by simpa [Cd.kids] using hy
       subst this
       exact hx.fit
      ·have : y = (x.lft (s.inn c.m c.g)).1 := by simpa [Cd.kids] using hy
       subst this
       exact hx.bare
  ·rw [if_pos k5] at hz ⊢
   split at hz
   ·contradiction
   ·rename_i h3
    rw [if_neg h3]
    obtain ⟨e1, e2⟩ := kidsE_all (Decidable.not_not.1 h3)
    have hi : c.inn s.r = s.r := if_neg k5
    rw [hi] at h2
    have key : ∀ y ∈ c.kids.map (fun x => (x.lft s).1), LftOk s.l y := fun y hy => by
     obtain ⟨x, hx, rfl⟩ := List.mem_map.1 hy
     exact ih x hx s hs (h2 x hx) (e2 x hx)
    simp only [e1]
    refine ⟨Cd.ovr_of (shape_cdOf h0 k5 (by simp)) (if_neg k5) fun y hy => ?_, cdOf_fit (by simpa using hkl) fun y hy => (key y hy).fit, bare_cdOf fun y hy => (key y hy).bare⟩
    rw [Cd.inn, if_neg (show ¬ (cdOf c.kind (c.kids.map (fun x => (x.lft s).1))).kind = 5 from k5)]
    exact (key y hy).ovr
end Go.AM
