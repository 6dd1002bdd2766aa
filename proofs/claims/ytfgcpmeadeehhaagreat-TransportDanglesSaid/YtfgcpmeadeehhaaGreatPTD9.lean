/-
 Parts of the proof, as merged from many texts: a machine over data, what the functions compute, plain laws.
-/
import Derived.Test.YtfgcpmeadeehhaaGreatPTD8
import Derived.Deep.AppendLies
set_option linter.unusedSimpArgs false
set_option linter.unusedVariables false
namespace Go.AM
open Go Go.Proofs
instance : Inhabited NT := ⟨⟨eB, 0, false, []⟩⟩
def Ty.nd (t : Ty) (i : Nat) : NT := t.nodes.getD i default
def atsL (t : Ty) (i : Nat) : List At := if h : 0 ≤ (t.nd i).par ∧ (t.nd i).par.toNat < i then atsL t (t.nd i).par.toNat ++ (t.nd i).own else (t.nd i).own
termination_by i
decreasing_by exact h.2
theorem atsL_up {t : Ty} {i : Nat} (h : 0 ≤ (t.nd i).par) (h2 : (t.nd i).par.toNat < i) : atsL t i = atsL t (t.nd i).par.toNat ++ (t.nd i).own := by rw [atsL, dif_pos ⟨h, h2⟩]
theorem atsL_top {t : Ty} {i : Nat} (h : ¬ 0 ≤ (t.nd i).par) : atsL t i = (t.nd i).own := by rw [atsL, dif_neg fun h2 => h h2.1]
theorem atsL_len {t : Ty} {M : Nat} (hM : ∀ i, (t.nd i).own.length ≤ M) : ∀ n i, i < n → (atsL t i).length ≤ (i + 1) * M
 | 0, i, hi => absurd hi (Nat.not_lt_zero _)
 | n + 1, i, hi => by
  have hm := hM i
  by_cases h : 0 ≤ (t.nd i).par ∧ (t.nd i).par.toNat < i
  ·have ih := atsL_len hM n (t.nd i).par.toNat (by omega)
   rw [atsL_up h.1 h.2, List.length_append]
   have : ((t.nd i).par.toNat + 1) * M ≤ i * M := Nat.mul_le_mul_right _ (by omega)
   rw [Nat.add_mul, Nat.one_mul]
   omega
  ·rw [atsL, dif_neg h]
   have : M ≤ (i + 1) * M := Nat.le_mul_of_pos_left _ (by omega)
   omega
structure Ty.Fit (t : Ty) : Prop where
 n : t.nodes.length ≤ 1000
 e : t.edges.length ≤ 1000
 nn : ∀ x ∈ t.nodes, x.name.size ≤ 1000000000000
 en : ∀ x ∈ t.edges, x.name.size ≤ 1000000000000
 a : ∀ x ∈ t.nodes, x.own.length ≤ 1000 ∧ ∀ y ∈ x.own, y.Fit
theorem nd_at {t : Ty} {i : Nat} (h : i < t.nodes.length) : t.nd i = t.nodes[i] := by simp [Ty.nd, h]
theorem attrs_c (t : Ty) (ht : t.Fit) (hM : ∀ i, (t.nd i).own.length ≤ 1000) : ∀ (n i : Nat), i < n → i < t.nodes.length → (∀ j, j ≤ i → (t.nd j).par < j) → ∀ (tok : Tks) (nt : Nat), ∃ tok' nt' o, ((∀ q, tok q = true → q < nt) → TK tok nt tok' nt' [o]) ∧
  DCall Tryz.prog 188 [t.av, I i] tok nt (.osl 4 ((atsL t i).map At.cells) o) tok' nt'
 | 0, i, hi, _, _, _, _ => absurd hi (Nat.not_lt_zero _)
 | n + 1, i, hi, hlt, hp, tok, nt => by
  have hnd := nd_at hlt
  by_cases h0 : 0 ≤ (t.nd i).par
  ·have hpi := hp i (Nat.le_refl _)
   obtain ⟨tok1, nt1, o1, hk, hc⟩ := attrs_c t ht hM n (t.nd i).par.toNat (by omega) (by omega) (fun j hj => hp j (by omega)) tok nt
   have hL := atsL_up h0 (by omega)
   have hl1 := atsL_len hM (i + 1) (t.nd i).par.toNat (by omega)
   have hl2 := hM i
   have hb : ((t.nd i).par.toNat + 1) * 1000 ≤ 1000 * 1000 := Nat.mul_le_mul_right _ (by have := ht.n; omega)
   refine ⟨_, _, .tok nt1, fun h => (hk h).app, ?_⟩
   rw [hL]
   rw [Int.toNat_of_nonneg h0] at hc
   generalize atsL t (t.nd i).par.toNat = Q at *
   rw [hnd] at h0 hc hl2 ⊢
   intro box nb
   have hc := hc
   refine sB Tryz.func188 Tryz.ntmps188 ?_
   intro hbox htok
   simp only at hbox htok
   apply AL.start
   have hkk := hk htok
   try (simp [hlt])
   repeat (refine sR ?_; simp [hlt])
   refine sC ?_
   simp [h0]
   try (simp)
   repeat (refine sR ?_; simp)
   refine Stop.of_d (hc) ?_
   simp
   try (simp [hlt])
   repeat (refine sR ?_; simp [hlt])
   refine ⟨⟨by omega, hkk.live⟩, ?_⟩
   refine sN ?_
   refine AL.ret ?_
   try simp only [AU]
   refine ⟨by simp, Fin.own (by simp [resAs, resA]; rfl) hbox rfl hkk.app.le ?_⟩
   simp [packA]
  ·have hL := atsL_top h0
   have hl2 := hM i
   refine ⟨_, _, .tok nt, fun h => (TK.start h).full.app, ?_⟩
   rw [hL]
   rw [hnd] at h0 hl2 ⊢
   intro box nb
   refine sB Tryz.func188 Tryz.ntmps188 ?_
   intro hbox htok
   simp only at hbox htok
   apply AL.start
   have hkk := (TK.start htok).full
   try (simp [hlt])
   repeat (refine sR ?_; simp [hlt])
   refine sC ?_
   simp [h0]
   try (simp [hlt])
   repeat (refine sR ?_; simp [hlt])
   refine ⟨by omega, ?_⟩
   refine sN ?_
   refine AL.ret ?_
   try simp only [AU]
   refine ⟨by simp, Fin.own (by simp [resAs, resA]; rfl) hbox rfl (by simp) ?_⟩
   simp [packA]
end Go.AM
namespace Go.AM
open Go Go.Proofs
def bndB (lo hi : Int) : Bool := decide (0 ≤ lo ∧ lo ≤ 40) && (hi == -1 || decide (lo ≤ hi ∧ hi ≤ 40))
theorem bounded_c (lo hi : Int) (tok : Tks) (nt : Nat) : DCall Tryz.prog 193 [I lo, I hi] tok nt (B (bndB lo hi)) tok nt := by
 intro box nb
 by_cases h1 : 0 ≤ lo
 ·by_cases h2 : lo ≤ 40
  ·cases h3 : (hi == -1)
   ·by_cases h4 : lo ≤ hi
    ·by_cases h5 : hi ≤ 40
     ·refine sB Tryz.func193 Tryz.ntmps193 ?_
      intro hbox htok
      simp only at hbox htok
      apply AL.start
      try (simp [h1, h2, h3, h4, h5])
      repeat (refine sR ?_; simp [h1, h2, h3, h4, h5])
      refine sT ?_
      try simp only [AU]
      refine ⟨by simp, sF hbox htok (fun _ h => h) (Nat.le_refl _) ?_⟩
      simp [packA, bndB, h1, h2, h3, h4, h5]
     ·refine sB Tryz.func193 Tryz.ntmps193 ?_
      intro hbox htok
      simp only at hbox htok
      apply AL.start
      try (simp [h1, h2, h3, h4, h5])
      repeat (refine sR ?_; simp [h1, h2, h3, h4, h5])
      refine sT ?_
      try simp only [AU]
      refine ⟨by simp, sF hbox htok (fun _ h => h) (Nat.le_refl _) ?_⟩
      simp [packA, bndB, h1, h2, h3, h4, h5]
    ·refine sB Tryz.func193 Tryz.ntmps193 ?_
     intro hbox htok
     simp only at hbox htok
     apply AL.start
     try (simp [h1, h2, h3, h4])
     repeat (refine sR ?_; simp [h1, h2, h3, h4])
     refine sT ?_
     try simp only [AU]
     refine ⟨by simp, sF hbox htok (fun _ h => h) (Nat.le_refl _) ?_⟩
     simp [packA, bndB, h1, h2, h3, h4]
   ·refine sB Tryz.func193 Tryz.ntmps193 ?_
    intro hbox htok
    simp only at hbox htok
    apply AL.start
    try (simp [h1, h2, h3])
    repeat (refine sR ?_; simp [h1, h2, h3])
    refine sT ?_
    try simp only [AU]
    refine ⟨by simp, sF hbox htok (fun _ h => h) (Nat.le_refl _) ?_⟩
    simp [packA, bndB, h1, h2, h3]
  ·refine sB Tryz.func193 Tryz.ntmps193 ?_
   intro hbox htok
   simp only at hbox htok
   apply AL.start
   try (simp [h1, h2])
   repeat (refine sR ?_; simp [h1, h2])
   refine sT ?_
   try simp only [AU]
   refine ⟨by simp, sF hbox htok (fun _ h => h) (Nat.le_refl _) ?_⟩
   simp [packA, bndB, h1, h2]
 ·refine sB Tryz.func193 Tryz.ntmps193 ?_
  intro hbox htok
  simp only at hbox htok
  apply AL.start
  try (simp [h1])
  repeat (refine sR ?_; simp [h1])
  refine sT ?_
  try simp only [AU]
  refine ⟨by simp, sF hbox htok (fun _ h => h) (Nat.le_refl _) ?_⟩
  simp [packA, bndB, h1]
abbrev NT.row (n : NT) : List AV := [Sb n.name, I n.par, B n.abs, .d (atts n.own)]
abbrev ET.row (e : ET) : List AV := [Sb e.name, I e.fr, I e.to, I e.ol, I e.oh, I e.il, I e.ih]
theorem node1_c (x y : NT) (box : Bxs) (nb k : Nat) (tok : Tks) (nt : Nat) (h1 : box k = some [x.row]) :
  ACalls Tryz.prog 187 [y.av, .ptr k 0 0] ⟨box, nb, tok, nt⟩ fun v m => v = B (decide (y.name = x.name)) ∧ m = ⟨box, nb, tok, nt⟩ := by
 refine sB Tryz.func187 Tryz.ntmps187 ?_
 intro hbox htok
 simp only at hbox htok
 apply AL.start
 have k1n := key_lt hbox h1
 rw [← seq_dec]
 try (simp [lb_out k1n, h1])
 repeat (refine sR ?_; simp [lb_out k1n, h1])
 refine sT ?_
 try simp only [AU]
 refine ⟨by simp, sF hbox htok (fun _ h => h) (Nat.le_refl _) ?_⟩
 simp [packA]
theorem edge2_c (x y : ET) (box : Bxs) (nb k : Nat) (tok : Tks) (nt : Nat) (h1 : box k = some [x.row]) :
  ACalls Tryz.prog 192 [y.av, .ptr k 0 0] ⟨box, nb, tok, nt⟩ fun v m => v = B (decide (y.name = x.name)) ∧ m = ⟨box, nb, tok, nt⟩ := by
 refine sB Tryz.func192 Tryz.ntmps192 ?_
 intro hbox htok
 simp only at hbox htok
 apply AL.start
 have k1n := key_lt hbox h1
 rw [← seq_dec]
 try (simp [lb_out k1n, h1])
 repeat (refine sR ?_; simp [lb_out k1n, h1])
 refine sT ?_
 try simp only [AU]
 refine ⟨by simp, sF hbox htok (fun _ h => h) (Nat.le_refl _) ?_⟩
 simp [packA]
def insB (t : Ty) (n : Int) : Bool := decide (0 ≤ n ∧ n < t.nodes.length)
theorem edge1_c (t : Ty) (n : Int) (box : Bxs) (nb k : Nat) (tok : Tks) (nt : Nat) (h1 : box k = some [[.d (nts t.nodes), .d (ets t.edges)]]) :
  ACalls Tryz.prog 190 [I n, .ptr k 0 0] ⟨box, nb, tok, nt⟩ fun v m => v = B (insB t n) ∧ m = ⟨box, nb, tok, nt⟩ := by
 by_cases h0 : 0 ≤ n
 ·refine sB Tryz.func190 Tryz.ntmps190 ?_
  intro hbox htok
  simp only at hbox htok
  apply AL.start
  have k1n := key_lt hbox h1
  try (simp [lb_out k1n, h1, h0])
  repeat (refine sR ?_; simp [lb_out k1n, h1, h0])
  refine sT ?_
  try simp only [AU]
  refine ⟨by simp, sF hbox htok (fun _ h => h) (Nat.le_refl _) ?_⟩
  simp [packA, insB, h0]
 ·refine sB Tryz.func190 Tryz.ntmps190 ?_
  intro hbox htok
  simp only at hbox htok
  apply AL.start
  have k1n := key_lt hbox h1
  try (simp [lb_out k1n, h1, h0])
  repeat (refine sR ?_; simp [lb_out k1n, h1, h0])
  refine sT ?_
  try simp only [AU]
  refine ⟨by simp, sF hbox htok (fun _ h => h) (Nat.le_refl _) ?_⟩
  simp [packA, insB, h0]
end Go.AM
namespace Go.AM
open Go Go.Proofs
def atAt (L : List At) (k : Nat) : Int := attE (L.getD k ⟨eB, 0, 0, []⟩) (L.take k)
def ownAt (L : List At) (M k : Nat) : Int := if k + M < L.length then 0 else atAt L k
def ownE (L : List At) (M : Nat) : Int := firstE (ownAt L M) L.length
theorem ownAt_zero (L : List At) (M : Nat) : ∀ k, k + M ≤ L.length → firstE (ownAt L M) k = 0
 | 0, _ => rfl
 | k + 1, h => by
  simp only [firstE, ownAt_zero L M k (by omega), ↓reduceIte, ownAt]
  rw [if_pos (by omega)]
theorem atsL_own {t : Ty} {i : Nat} : (t.nd i).own.length ≤ (atsL t i).length := by
 rw [atsL]
 split
 ·rw [List.length_append]; omega
 ·exact Nat.le_refl _
theorem atsL_fit {t : Ty} (ht : t.Fit) : ∀ n i, i < n → ∀ x ∈ atsL t i, x.Fit
 | 0, i, hi => absurd hi (Nat.not_lt_zero _)
 | n + 1, i, hi => by
  have hown : ∀ x ∈ (t.nd i).own, x.Fit := by
   by_cases h : i < t.nodes.length
   ·rw [nd_at h]; exact (ht.a _ (List.getElem_mem h)).2
   ·intro x hx
    simp only [Ty.nd, List.getD_eq_getElem?_getD, List.getElem?_eq_none (Nat.le_of_not_lt h), Option.getD_none] at hx
    cases hx
  rw [atsL]
  split
  ·rename_i h
   intro x hx
   rcases List.mem_append.1 hx with hx | hx
   ·exact atsL_fit ht n _ (by omega) x hx
   ·exact hown x hx
  ·exact hown
theorem at_getD {L : List At} {k : Nat} (h : k < L.length) : atAt L k = attE L[k] (L.take k) := by simp [atAt, h]
theorem atts_take (L : List At) (k : Nat) : atts (L.take k) = .sl 4 (List.take k (L.map At.cells)) := by rw [atts, List.map_take]
theorem atts_at {L : List At} {k : Nat} (h : k < L.length) : (L.map At.cells)[k]? = some L[k].cells := by simp [h]
def nodE (t : Ty) (i : Nat) : Int :=
 if nameB (t.nd i).name = false then 2 else if anyB (fun y => decide (y.name = (t.nd i).name)) (t.nodes.take i) = true then 5
 else if (t.nd i).par < -1 ∨ (i : Int) ≤ (t.nd i).par then 6 else if 4 < (t.nd i).own.length then 3
 else if 8 < (atsL t i).length then 3 else ownE (atsL t i) (t.nd i).own.length
def stNo (L : List At) (nb : Nat) (box : Bxs) (tok : Tks) (nt : Nat) (k : Nat) : AState := ⟨tl [(7, I k), (6, .d (atts L))], lb nb box [], tok, nt⟩
theorem node_c (t : Ty) (ht : t.Fit) (hM : ∀ i, (t.nd i).own.length ≤ 1000) (i : Nat) (hi : i < t.nodes.length) (hp : ∀ j, j < i → (t.nd j).par < j) (tok : Tks) (nt : Nat) : DCall Tryz.prog 128 [t.av, I i] tok nt (I (nodE t i)) tok nt := by
 intro box nb
 have hnd := nd_at hi
 have hmem := List.getElem_mem hi
 have h1 := isName_c (t.nd i).name (by rw [hnd]; exact Nat.le_trans (ht.nn _ hmem) (by decide))
 obtain ⟨N, hN⟩ : ∃ N, nodE t i = N := ⟨_, rfl⟩
 rw [hN]
 unfold nodE at hN
 rw [hnd] at h1 hN
 cases e1 : nameB t.nodes[i].name
 ·rw [e1] at h1 hN
  rw [if_pos rfl] at hN
  refine sB Tryz.func128 Tryz.ntmps128 ?_
  intro hbox htok
  simp only at hbox htok
  apply AL.start
  try (simp [hi])
  repeat (refine sR ?_; simp [hi])
  refine Stop.of_d (h1 _ _) ?_
  simp
  try (simp)
  repeat (refine sR ?_; simp)
  refine sC ?_
  simp
  try (simp)
  repeat (refine sR ?_; simp)
  refine sT ?_
  try simp only [AU]
  refine ⟨by simp, sF hbox htok (fun _ h => h) (Nat.le_refl _) ?_⟩
  simp [packA, ← hN]
 ·rw [e1] at h1 hN
  rw [if_neg (by simp)] at hN
  obtain ⟨p, hpp⟩ : ∃ p : NT → Bool, (fun y => decide (y.name = t.nodes[i].name)) = p := ⟨_, rfl⟩
  have h2 := fun y box nb k (hbk : box k = some [(t.nodes[i]'hi).row]) => node1_c (t.nodes[i]'hi) y box nb k tok nt hbk
  have hpy : ∀ y : NT, decide (y.name = t.nodes[i].name) = p y := fun y => by rw [← hpp]
  simp only [hpy] at h2
  rw [hpp] at hN
  refine sB Tryz.func128 Tryz.ntmps128 ?_
  intro hbox htok
  simp only at hbox htok
  apply AL.start
  try (simp [hi])
  repeat (refine sR ?_; simp [hi])
  refine Stop.of_d (h1 _ _) ?_
  simp
  try (simp)
  repeat (refine sR ?_; simp)
  refine sC ?_
  simp
  try (simp [hi])
  repeat (refine sR ?_; simp [hi])
  refine ⟨by omega, ?_⟩
  have hcf := fun (b : Bxs) nb' h3 h4 => containsFuncN_c (t.nodes.take i) 187 [.ptr (nb + 5) 0 0] p (by simp; have := ht.n; omega) b nb' tok nt h3 h4
  rw [show nts (t.nodes.take i) = .sl 4 (List.take i (t.nodes.map NT.cells)) by rw [nts, List.map_take]] at hcf
  refine Stop.of_b (hcf _ _ (fun c hc => by rw [List.mem_singleton.1 hc]; simp [lb_at]) (fun y hy box' nb' he => h2 y box' nb' _ (he _ _ (by simp [lb_at])))) ?_
  simp
  cases e2 : anyB p (t.nodes.take i)
  ·rw [e2, if_neg (by simp)] at hN
   refine sC ?_
   simp
   by_cases e3 : t.nodes[i].par < -1
   ·rw [if_pos (.inl e3)] at hN
    try (simp [e3])
    repeat (refine sR ?_; simp [e3])
    refine sC ?_
    simp
    try (simp)
    repeat (refine sR ?_; simp)
    refine sT ?_
    try simp only [AU]
    refine ⟨by simp, sF hbox htok (fun _ h => h) (Nat.le_refl _) ?_⟩
    simp [packA, ← hN]
   ·by_cases e4 : (i : Int) ≤ t.nodes[i].par
    ·rw [if_pos (.inr e4)] at hN
     try (simp [e3, e4])
     repeat (refine sR ?_; simp [e3, e4])
     refine sC ?_
     simp
     try (simp)
     repeat (refine sR ?_; simp)
     refine sT ?_
     try simp only [AU]
     refine ⟨by simp, sF hbox htok (fun _ h => h) (Nat.le_refl _) ?_⟩
     simp [packA, ← hN]
    ·rw [if_neg (by omega)] at hN
     try (simp [e3, e4])
     repeat (refine sR ?_; simp [e3, e4])
     refine sC ?_
     simp
     try (simp)
     repeat (refine sR ?_; simp)
     by_cases e5 : 4 < t.nodes[i].own.length
     ·have e5' : (4 : Int) < t.nodes[i].own.length := by omega
      rw [if_pos e5] at hN
      refine sC ?_
      simp [e5, e5']
      try (simp)
      repeat (refine sR ?_; simp)
      refine sT ?_
      try simp only [AU]
      refine ⟨by simp, sF hbox htok (fun _ h => h) (Nat.le_refl _) ?_⟩
      simp [packA, ← hN]
     ·have e5' : ¬ (4 : Int) < t.nodes[i].own.length := by omega
      rw [if_neg e5] at hN
      obtain ⟨tok1, nt1, o1, hk, hc⟩ := attrs_c t ht hM (i + 1) i (Nat.lt_succ_self _) hi (fun j hj => by
       by_cases e : j = i
       ·subst e; rw [hnd]; omega
       ·exact hp j (by omega)) tok nt
      have hal := atsL_len hM (i + 1) i (Nat.lt_succ_self _)
      have haf := atsL_fit ht (i + 1) i (Nat.lt_succ_self _)
      have hml := atsL_own (t := t) (i := i)
      rw [hnd] at hml
      have htn := ht.n
      have hal2 : (atsL t i).length ≤ 1000000 := Nat.le_trans hal (by have : (i + 1) * 1000 ≤ 1000 * 1000 := Nat.mul_le_mul_right _ (by omega); omega)
      clear hal
      generalize atsL t i = L at *
      refine sC ?_
      simp [e5, e5']
      try (simp)
      repeat (refine sR ?_; simp)
      refine Stop.of_d (hc) ?_
      simp
      have hkk := hk htok
      try (simp)
      repeat (refine sR ?_; simp)
      by_cases e6 : 8 < L.length
      ·have e6' : (8 : Int) < L.length := by omega
       rw [if_pos e6] at hN
       refine sC ?_
       simp [e6, e6']
       try (simp)
       repeat (refine sR ?_; simp)
       refine sT ?_
       try simp only [AU]
       refine ⟨by simp, sF hbox htok hkk.old hkk.le ?_⟩
       simp [packA, ← hN]
      ·have e6' : ¬ (8 : Int) < L.length := by omega
       rw [if_neg e6] at hN
       have hw0 : IntKind.i64.wrap ((L.length : Int) - (t.nodes[i].own.length : Nat)) = ((L.length - t.nodes[i].own.length : Nat) : Int) := by rw [wrap_in (by omega) (by omega)]; omega
       have hz := ownAt_zero L t.nodes[i].own.length (L.length - t.nodes[i].own.length) (by omega)
       unfold ownE at hN
       obtain ⟨f, hf⟩ : ∃ f, ownAt L t.nodes[i].own.length = f := ⟨_, rfl⟩
       have hfk : ∀ k, (hk : k < L.length) → L.length - t.nodes[i].own.length ≤ k → f k = attE L[k] (L.take k) := fun k hk hge => by
        rw [← hf, ownAt, if_neg (by omega), at_getD hk]
       rw [hf] at hN hz
       refine sC ?_
       simp [e6, e6']
       try (simp [hi, lb_at, hw0])
       repeat (refine sR ?_; simp [hi, lb_at, hw0])
       have hal3 : L.length - t.nodes[i].own.length ≤ L.length := Nat.sub_le _ _
       generalize L.length - t.nodes[i].own.length = a at *
       refine sN ?_
       refine AL.loopT (stNo L nb box tok1 nt1) (fun k => a ≤ k ∧ k ≤ L.length ∧ firstE f k = 0) (fun k => L.length - k) a ⟨Nat.le_refl _, by omega, hz⟩ (Weaks.mk (by have := hkk.le; omega) rfl (by simp [ToL, lk, To.data]) trivial) ?_
       rintro k S' ⟨hak, hkl, hok⟩ hS
       simp only [stNo] at hS
       subst hS
       have hw := sW (i := k) (by omega)
       try (simp)
       repeat (refine sR ?_; simp)
       refine sC ?_
       simp
       refine ⟨fun hlt => ?_, fun hge => ?_⟩
       ·have hA := hfk k hlt hak
        have hc2 := attribute_c L[k] (L.take k) (haf _ (List.getElem_mem hlt)) (by simp; omega)
        rw [atts_take, ← hA] at hc2
        have hR : f k ≠ 0 → firstE f L.length = f k := fun h0 => firstE_stop hok h0 L.length hlt
        have hnx : f k = 0 → firstE f (k + 1) = 0 := fun h0 => by simp only [firstE, hok, h0, ↓reduceIte]
        generalize f k = E at *
        try (simp [hlt, atts_at hlt])
        repeat (refine sR ?_; simp [hlt, atts_at hlt])
        try refine ⟨by omega, ?_⟩
        refine Stop.of_d (hc2 _ _) ?_
        simp
        try (simp)
        repeat (refine sR ?_; simp)
        by_cases e7 : E = 0
        ·refine sC ?_
         simp [e7]
         try (simp [hw])
         repeat (refine sR ?_; simp [hw])
         refine sE ?_
         exact ⟨k + 1, ⟨by omega, hlt, hnx e7⟩, by omega, Weaks.mk (by have := hkk.le; omega) rfl (by simp [ToL, lk]) trivial⟩
        ·have b7 : (E != 0) = true := by simp [e7]
         refine sC ?_
         simp [e7, b7]
         try (simp)
         repeat (refine sR ?_; simp)
         refine sT ?_
         try simp only [AU]
         refine ⟨by simp, sF hbox htok hkk.old hkk.le ?_⟩
         simp [packA, ← hN, hR e7]
       ·refine sX ?_
        simp only [AU, ↓reduceIte]
        try (simp)
        repeat (refine sR ?_; simp)
        have : k = L.length := by omega
        subst this
        refine sT ?_
        try simp only [AU]
        refine ⟨by simp, sF hbox htok hkk.old hkk.le ?_⟩
        simp [packA, ← hN, hok]
  ·rw [e2, if_pos rfl] at hN
   refine sC ?_
   simp
   try (simp)
   repeat (refine sR ?_; simp)
   refine sT ?_
   try simp only [AU]
   refine ⟨by simp, sF hbox htok (fun _ h => h) (Nat.le_refl _) ?_⟩
   simp [packA, ← hN]
end Go.AM
namespace Go.AM
open Go Go.Proofs
end Go.AM
namespace Go.AM
open Go Go.Proofs
instance : Inhabited ET := ⟨⟨eB, 0, 0, 0, 0, 0, 0⟩⟩
def Ty.ed (t : Ty) (i : Nat) : ET := t.edges.getD i default
theorem ed_at {t : Ty} {i : Nat} (h : i < t.edges.length) : t.ed i = t.edges[i] := by simp [Ty.ed, h]
def anyE (l : List ET) (s : ByteArray) : Bool := anyB (fun y => decide (y.name = s)) l
def edR (t : Ty) (x : ET) : Int := if insB t x.fr = false then 6 else if insB t x.to = false then 6 else if bndB x.ol x.oh = false then 6 else if bndB x.il x.ih = false then 6 else 0
def edgE (t : Ty) (i : Nat) : Int :=
 if nameB (t.ed i).name = false then 2 else if anyE (t.edges.take i) (t.ed i).name = true then 5 else edR t (t.ed i)
theorem edge_c (t : Ty) (ht : t.Fit) (i : Nat) (hi : i < t.edges.length) (tok : Tks) (nt : Nat) : DCall Tryz.prog 129 [t.av, I i] tok nt (I (edgE t i)) tok nt := by
 intro box nb
 have hnd := ed_at hi
 have hmem := List.getElem_mem hi
 have hte := ht.e
 have h1 := isName_c (t.ed i).name (by rw [hnd]; exact Nat.le_trans (ht.en _ hmem) (by decide))
 obtain ⟨N, hN⟩ : ∃ N, edgE t i = N := ⟨_, rfl⟩
 rw [hN]
 unfold edgE at hN
 rw [hnd] at h1 hN
 cases e1 : nameB t.edges[i].name
 ·rw [e1] at h1 hN
  rw [if_pos rfl] at hN
  refine sB Tryz.func129 Tryz.ntmps129 ?_
  intro hbox htok
  simp only at hbox htok
  apply AL.start
  try (simp [hi])
  repeat (refine sR ?_; simp [hi])
  refine Stop.of_d (h1 _ _) ?_
  simp
  try (simp)
  repeat (refine sR ?_; simp)
  refine sC ?_
  simp
  try (simp)
  repeat (refine sR ?_; simp)
  refine sT ?_
  try simp only [AU]
  refine ⟨by simp, sF hbox htok (fun _ h => h) (Nat.le_refl _) ?_⟩
  simp [packA, ← hN]
 ·rw [e1] at h1 hN
  rw [if_neg (by simp)] at hN
  unfold anyE at hN
  obtain ⟨p, hpp⟩ : ∃ p : ET → Bool, (fun y => decide (y.name = t.edges[i].name)) = p := ⟨_, rfl⟩
  have h2 := fun y box nb k (hbk : box k = some [(t.edges[i]'hi).row]) => edge2_c (t.edges[i]'hi) y box nb k tok nt hbk
  have hpy : ∀ y : ET, decide (y.name = t.edges[i].name) = p y := fun y => by rw [← hpp]
  simp only [hpy] at h2
  rw [hpp] at hN
  refine sB Tryz.func129 Tryz.ntmps129 ?_
  intro hbox htok
  simp only at hbox htok
  apply AL.start
  try (simp [hi])
  repeat (refine sR ?_; simp [hi])
  refine Stop.of_d (h1 _ _) ?_
  simp
  try (simp)
  repeat (refine sR ?_; simp)
  refine sC ?_
  simp
  try (simp [hi])
  repeat (refine sR ?_; simp [hi])
  try refine ⟨by omega, ?_⟩
  have hcf := fun (b : Bxs) nb' h3 h4 => containsFuncE2_c (t.edges.take i) 192 [.ptr (nb + 5) 0 0] p (by simp; have := ht.e; omega) b nb' tok nt h3 h4
  rw [show ets (t.edges.take i) = .sl 7 (List.take i (t.edges.map ET.cells)) by rw [ets, List.map_take]] at hcf
  refine Stop.of_b (hcf _ _ (fun c hc => by rw [List.mem_singleton.1 hc]; simp [lb_at]) (fun y hy box' nb' he => h2 y box' nb' _ (he _ _ (by simp [lb_at])))) ?_
  simp
  cases e2 : anyB p (t.edges.take i)
  ·rw [e2, if_neg (by simp)] at hN
   unfold edR at hN
   have b1 := bounded_c t.edges[i].ol t.edges[i].oh
   have b2 := bounded_c t.edges[i].il t.edges[i].ih
   refine sC ?_
   simp
   try (simp)
   repeat (refine sR ?_; simp)
   refine Stop.of_b (edge1_c t t.edges[i].fr _ _ (nb + 2) _ _ (by simp [lb_at])) ?_
   simp
   cases g1 : insB t t.edges[i].fr
   ·rw [g1, if_pos rfl] at hN
    try (simp)
    repeat (refine sR ?_; simp)
    refine sC ?_
    simp
    try (simp)
    repeat (refine sR ?_; simp)
    refine sC ?_
    simp
    try (simp)
    repeat (refine sR ?_; simp)
    refine sT ?_
    try simp only [AU]
    refine ⟨by simp, sF hbox htok (fun _ h => h) (Nat.le_refl _) ?_⟩
    simp [packA, ← hN]
   ·rw [g1, if_neg (by simp)] at hN
    try (simp)
    repeat (refine sR ?_; simp)
    refine Stop.of_b (edge1_c t t.edges[i].to _ _ (nb + 2) _ _ (by simp [lb_at])) ?_
    simp
    cases g2 : insB t t.edges[i].to
    ·rw [g2, if_pos rfl] at hN
     try (simp)
     repeat (refine sR ?_; simp)
     refine sC ?_
     simp
     try (simp)
     repeat (refine sR ?_; simp)
     refine sC ?_
     simp
     try (simp)
     repeat (refine sR ?_; simp)
     refine sT ?_
     try simp only [AU]
     refine ⟨by simp, sF hbox htok (fun _ h => h) (Nat.le_refl _) ?_⟩
     simp [packA, ← hN]
    ·rw [g2, if_neg (by simp)] at hN
     try (simp)
     repeat (refine sR ?_; simp)
     refine sC ?_
     simp
     try (simp)
     repeat (refine sR ?_; simp)
     refine Stop.of_d (b1 _ _) ?_
     simp
     cases g3 : bndB t.edges[i].ol t.edges[i].oh
     ·rw [g3, if_pos rfl] at hN
      try (simp)
      repeat (refine sR ?_; simp)
      refine sC ?_
      simp
      try (simp)
      repeat (refine sR ?_; simp)
      refine sT ?_
      try simp only [AU]
      refine ⟨by simp, sF hbox htok (fun _ h => h) (Nat.le_refl _) ?_⟩
      simp [packA, ← hN]
     ·rw [g3, if_neg (by simp)] at hN
      try (simp)
      repeat (refine sR ?_; simp)
      refine Stop.of_d (b2 _ _) ?_
      simp
      cases g4 : bndB t.edges[i].il t.edges[i].ih
      ·rw [g4, if_pos rfl] at hN
       try (simp)
       repeat (refine sR ?_; simp)
       refine sC ?_
       simp
       try (simp)
       repeat (refine sR ?_; simp)
       refine sT ?_
       try simp only [AU]
       refine ⟨by simp, sF hbox htok (fun _ h => h) (Nat.le_refl _) ?_⟩
       simp [packA, ← hN]
      ·rw [g4, if_neg (by simp)] at hN
       try (simp)
       repeat (refine sR ?_; simp)
       refine sC ?_
       simp
       try (simp)
       repeat (refine sR ?_; simp)
       refine sT ?_
       try simp only [AU]
       refine ⟨by simp, sF hbox htok (fun _ h => h) (Nat.le_refl _) ?_⟩
       simp [packA, ← hN]
  ·rw [e2, if_pos rfl] at hN
   refine sC ?_
   simp
   try (simp)
   repeat (refine sR ?_; simp)
   refine sT ?_
   try simp only [AU]
   refine ⟨by simp, sF hbox htok (fun _ h => h) (Nat.le_refl _) ?_⟩
   simp [packA, ← hN]
end Go.AM
namespace Go.AM
open Go Go.Proofs
def firstN (f : Nat → Int) (g : Nat → ByteArray) : Nat → ByteArray
 | 0 => eB
 | n + 1 => if firstE f n = 0 then (if f n = 0 then eB else g n) else firstN f g n
theorem firstN_stop {f : Nat → Int} {g : Nat → ByteArray} {i : Nat} (h0 : firstE f i = 0) (h : f i ≠ 0) : ∀ n, i < n → firstN f g n = g i
 | 0, hi => absurd hi (Nat.not_lt_zero _)
 | n + 1, hi => by
  simp only [firstN]
  by_cases e : i = n
  ·subst e
   rw [if_pos h0, if_neg h]
  ·have := firstE_stop h0 h n (by omega)
   rw [if_neg (by rw [this]; exact h), firstN_stop h0 h n (by omega)]
theorem firstN_none {f : Nat → Int} {g : Nat → ByteArray} : ∀ n, firstE f n = 0 → firstN f g n = eB
 | 0, _ => rfl
 | n + 1, h => by
  simp only [firstE] at h
  split at h
  ·rename_i h1
   rw [firstN, if_pos h1, if_pos h]
  ·rename_i h1
   exact absurd h h1
def tyE (t : Ty) : Int :=
 if t.nodes.length = 0 then 7 else if 12 < t.nodes.length then 3 else if 20 < t.edges.length then 3
 else if firstE (nodE t) t.nodes.length ≠ 0 then firstE (nodE t) t.nodes.length else firstE (edgE t) t.edges.length
def tyN (t : Ty) : ByteArray :=
 if t.nodes.length = 0 then eB else if 12 < t.nodes.length then eB else if 20 < t.edges.length then eB
 else if firstE (nodE t) t.nodes.length ≠ 0 then firstN (nodE t) (fun i => (t.nd i).name) t.nodes.length else firstN (edgE t) (fun i => (t.ed i).name) t.edges.length
theorem nodE_par {t : Ty} {i : Nat} (h : nodE t i = 0) : (t.nd i).par < i := by
 unfold nodE at h
 split at h
 ·cases h
 ·split at h
  ·cases h
  ·split at h
   ·cases h
   ·omega
theorem firstE_allZ {f : Nat → Int} : ∀ n, firstE f n = 0 → ∀ i, i < n → f i = 0
 | 0, _, i, hi => absurd hi (Nat.not_lt_zero _)
 | n + 1, h, i, hi => by
  simp only [firstE] at h
  split at h
  ·rename_i h1
   by_cases e : i = n
   ·subst e; exact h
   ·exact firstE_allZ n h1 i (by omega)
  ·rename_i h1
   exact absurd h h1
end Go.AM
namespace Go.AM
open Go Go.Proofs
def stVn (t : Ty) (nb : Nat) (box : Bxs) (tok : Tks) (nt : Nat) (i : Nat) : AState := ⟨tl [(29, I i), (28, I t.nodes.length), (27, .d (nts t.nodes)), (1, .ptr (nb + 1) 0 0)], lb nb box [(1, [[.d (nts t.nodes), .d (ets t.edges)]])], tok, nt⟩
def stVe (t : Ty) (nb : Nat) (box : Bxs) (tok : Tks) (nt : Nat) (i : Nat) : AState := ⟨tl [(46, I i), (45, I t.edges.length), (44, .d (ets t.edges)), (1, .ptr (nb + 1) 0 0)], lb nb box [(1, [[.d (nts t.nodes), .d (ets t.edges)]])], tok, nt⟩
theorem valid_c4 (t : Ty) (ht : t.Fit) (hM : ∀ i, (t.nd i).own.length ≤ 1000) (tok : Tks) (nt : Nat) : DCall Tryz.prog 70 [t.av] tok nt (.tup [Sb (tyN t), I (tyE t)]) tok nt := by
 intro box nb
 have htn := ht.n
 have hte := ht.e
 obtain ⟨N, hN⟩ : ∃ N, tyE t = N := ⟨_, rfl⟩
 obtain ⟨Z, hZ⟩ : ∃ Z, tyN t = Z := ⟨_, rfl⟩
 rw [hN, hZ]
 unfold tyE at hN
 unfold tyN at hZ
 by_cases e1 : t.nodes.length = 0
 ·have e1' : t.nodes = [] := List.length_eq_zero_iff.1 e1
  rw [if_pos e1] at hN hZ
  refine sB Tryz.func70 Tryz.ntmps70 ?_
  intro hbox htok
  simp only at hbox htok
  apply AL.start
  try (simp [e1'])
  repeat (refine sR ?_; simp [e1'])
  refine sC ?_
  simp [e1']
  try (simp)
  repeat (refine sR ?_; simp)
  refine sT ?_
  try simp only [AU]
  refine ⟨by simp, sF hbox htok (fun _ h => h) (Nat.le_refl _) ?_⟩
  simp [packA, ← hN, ← hZ]
 ·have e1' : ¬ t.nodes = [] := fun h => e1 (by rw [h]; rfl)
  rw [if_neg e1] at hN hZ
  by_cases e2 : 12 < t.nodes.length
  ·have e2' : (12 : Int) < t.nodes.length := by omega
   rw [if_pos e2] at hN hZ
   refine sB Tryz.func70 Tryz.ntmps70 ?_
   intro hbox htok
   simp only at hbox htok
   apply AL.start
   try (simp [e1', e2, e2'])
   repeat (refine sR ?_; simp [e1', e2, e2'])
   refine sC ?_
   simp [e1', e2, e2']
   try (simp [e2, e2'])
   repeat (refine sR ?_; simp [e2, e2'])
   refine sC ?_
   simp [e2, e2']
   try (simp)
   repeat (refine sR ?_; simp)
   refine sT ?_
   try simp only [AU]
   refine ⟨by simp, sF hbox htok (fun _ h => h) (Nat.le_refl _) ?_⟩
   simp [packA, ← hN, ← hZ]
  ·have e2' : ¬ (12 : Int) < t.nodes.length := by omega
   rw [if_neg e2] at hN hZ
   by_cases e3 : 20 < t.edges.length
   ·have e3' : (20 : Int) < t.edges.length := by omega
    rw [if_pos e3] at hN hZ
    refine sB Tryz.func70 Tryz.ntmps70 ?_
    intro hbox htok
    simp only at hbox htok
    apply AL.start
    try (simp [e1', e2, e2', e3, e3'])
    repeat (refine sR ?_; simp [e1', e2, e2', e3, e3'])
    refine sC ?_
    simp [e1', e2, e2']
    try (simp [e2, e2', e3, e3'])
    repeat (refine sR ?_; simp [e2, e2', e3, e3'])
    refine sC ?_
    simp [e2, e2', e3, e3']
    try (simp)
    repeat (refine sR ?_; simp)
    refine sT ?_
    try simp only [AU]
    refine ⟨by simp, sF hbox htok (fun _ h => h) (Nat.le_refl _) ?_⟩
    simp [packA, ← hN, ← hZ]
   ·have e3' : ¬ (20 : Int) < t.edges.length := by omega
    rw [if_neg e3] at hN hZ
    refine sB Tryz.func70 Tryz.ntmps70 ?_
    intro hbox htok
    simp only at hbox htok
    apply AL.start
    try (simp [e1', e2, e2', e3, e3'])
    repeat (refine sR ?_; simp [e1', e2, e2', e3, e3'])
    refine sC ?_
    simp [e1', e2, e2']
    try (simp [e2, e2', e3, e3'])
    repeat (refine sR ?_; simp [e2, e2', e3, e3'])
    refine sC ?_
    simp [e2, e2', e3, e3']
    try (simp)
    repeat (refine sR ?_; simp)
    refine sN ?_
    refine AL.loopT (stVn t nb box tok nt) (fun i => i ≤ t.nodes.length ∧ firstE (nodE t) i = 0) (fun i => t.nodes.length - i) 0 ⟨Nat.zero_le _, rfl⟩ (Weaks.mk (Nat.le_refl _) rfl (by simp [ToL, lk, lb_at]) (by simp [BoxL, lk])) ?_
    rintro i S' ⟨hi, hok⟩ hS
    simp only [stVn] at hS
    subst hS
    have hw := sW (i := i) (by omega)
    try (simp)
    repeat (refine sR ?_; simp)
    refine sC ?_
    simp
    refine ⟨fun hlt => ?_, fun hge => ?_⟩
    ·have hc := node_c t ht hM i hlt (fun j hj => nodE_par (firstE_allZ i hok j hj))
     have hR : nodE t i ≠ 0 → firstE (nodE t) t.nodes.length = nodE t i := fun h0 => firstE_stop hok h0 _ hlt
     have hR2 : nodE t i ≠ 0 → firstN (nodE t) (fun i => (t.nd i).name) t.nodes.length = t.nodes[i].name := fun h0 => by rw [firstN_stop hok h0 _ hlt, nd_at hlt]
     have hnx : nodE t i = 0 → firstE (nodE t) (i + 1) = 0 := fun h0 => by simp only [firstE, hok, h0, ↓reduceIte]
     generalize nodE t i = E at *
     try (simp [hlt])
     repeat (refine sR ?_; simp [hlt])
     refine Stop.of_d (hc _ _) ?_
     simp
     try (simp)
     repeat (refine sR ?_; simp)
     by_cases e7 : E = 0
     ·refine sC ?_
      simp [e7]
      try (simp [hw])
      repeat (refine sR ?_; simp [hw])
      refine sE ?_
      exact ⟨i + 1, ⟨hlt, hnx e7⟩, by omega, Weaks.mk (Nat.le_refl _) rfl (by simp [ToL, lk, lb_at]) (by simp [BoxL, lk])⟩
     ·have b7 : (E != 0) = true := by simp [e7]
      rw [hR e7, if_pos e7] at hN hZ
      rw [hR2 e7] at hZ
      refine sC ?_
      simp [e7, b7]
      try (simp [hlt])
      repeat (refine sR ?_; simp [hlt])
      refine sT ?_
      try simp only [AU]
      refine ⟨by simp, sF hbox htok (fun _ h => h) (Nat.le_refl _) ?_⟩
      simp [packA, ← hN, ← hZ]
    ·refine sX ?_
     simp only [AU, ↓reduceIte]
     have : i = t.nodes.length := by omega
     subst this
     rw [if_neg (by rw [hok]; simp)] at hN hZ
     try (simp)
     repeat (refine sR ?_; simp)
     refine sN ?_
     refine AL.loopT (stVe t nb box tok nt) (fun i => i ≤ t.edges.length ∧ firstE (edgE t) i = 0) (fun i => t.edges.length - i) 0 ⟨Nat.zero_le _, rfl⟩ (Weaks.mk (Nat.le_refl _) rfl (by simp [ToL, lk, lb_at]) (by simp [BoxL, lk])) ?_
     rintro i S' ⟨hi, hok2⟩ hS
     simp only [stVe] at hS
     subst hS
     have hw := sW (i := i) (by omega)
     try (simp)
     repeat (refine sR ?_; simp)
     refine sC ?_
     simp
     refine ⟨fun hlt => ?_, fun hge => ?_⟩
     ·have hc := edge_c t ht i hlt
      have hR : edgE t i ≠ 0 → firstE (edgE t) t.edges.length = edgE t i := fun h0 => firstE_stop hok2 h0 _ hlt
      have hR2 : edgE t i ≠ 0 → firstN (edgE t) (fun i => (t.ed i).name) t.edges.length = t.edges[i].name := fun h0 => by rw [firstN_stop hok2 h0 _ hlt, ed_at hlt]
      have hnx : edgE t i = 0 → firstE (edgE t) (i + 1) = 0 := fun h0 => by simp only [firstE, hok2, h0, ↓reduceIte]
      generalize edgE t i = E at *
      try (simp [hlt])
      repeat (refine sR ?_; simp [hlt])
      refine Stop.of_d (hc _ _) ?_
      simp
      try (simp)
      repeat (refine sR ?_; simp)
      by_cases e7 : E = 0
      ·refine sC ?_
       simp [e7]
       try (simp [hw])
       repeat (refine sR ?_; simp [hw])
       refine sE ?_
       exact ⟨i + 1, ⟨hlt, hnx e7⟩, by omega, Weaks.mk (Nat.le_refl _) rfl (by simp [ToL, lk, lb_at]) (by simp [BoxL, lk])⟩
      ·have b7 : (E != 0) = true := by simp [e7]
       rw [hR e7] at hN
       rw [hR2 e7] at hZ
       refine sC ?_
       simp [e7, b7]
       try (simp [hlt])
       repeat (refine sR ?_; simp [hlt])
       refine sT ?_
       try simp only [AU]
       refine ⟨by simp, sF hbox htok (fun _ h => h) (Nat.le_refl _) ?_⟩
       simp [packA, ← hN, ← hZ]
     ·refine sX ?_
      simp only [AU, ↓reduceIte]
      have : i = t.edges.length := by omega
      subst this
      rw [hok2] at hN
      rw [firstN_none _ hok2] at hZ
      try (simp)
      repeat (refine sR ?_; simp)
      refine sT ?_
      try simp only [AU]
      refine ⟨by simp, sF hbox htok (fun _ h => h) (Nat.le_refl _) ?_⟩
      simp [packA, ← hN, ← hZ]
end Go.AM
namespace Go.AM
open Go
theorem backL_succ (l : List Int) (k : Nat) : backL l (k + 1) = backL l k ++ [indexI l k] := by simp [backL, List.range_succ]
def backS (l : List Int) (k j : Nat) : List Int := backL l k ++ [indexI (l.take j) k]
theorem backS_len (l : List Int) (k j : Nat) : (backS l k j).length = k + 1 := by simp [backS, backL]
theorem backS_zero (l : List Int) (k : Nat) : backS l k 0 = backL l k ++ [-1] := by simp [backS, indexI]
theorem backS_all (l : List Int) (k : Nat) : backS l k l.length = backL l (k + 1) := by simp [backS, backL_succ]
theorem indexI_none {l : List Int} {v : Int} (h : v ∉ l) : indexI l v = -1 := by
 rcases indexI_spec l v with ⟨h1, _⟩ | ⟨k, _, h3, h4⟩
 ·exact h1
 ·exact absurd (h4 ▸ getD_mem h3) h
theorem take_mem {l : List Int} {j : Nat} (h : j < l.length) {v : Int} : v ∈ l.take (j + 1) ↔ v ∈ l.take j ∨ v = l.getD j 0 := by
 rw [← List.take_append_getElem h, List.mem_append, List.mem_singleton]
 simp [h]
theorem index_no {l : List Int} {j : Nat} (h : j < l.length) {v : Int} (hv : l.getD j 0 ≠ v) (hn : l.Nodup) : indexI (l.take (j + 1)) v = indexI (l.take j) v := by
 by_cases hm : v ∈ l.take j
 ·obtain ⟨a1, a2, a3⟩ := indexI_in hm
  obtain ⟨b1, b2, b3⟩ := indexI_in ((take_mem h).2 (.inl hm))
  have hnd : (l.take (j + 1)).Nodup := hn.sublist (List.take_sublist _ _)
  have hl : (l.take j).length ≤ (l.take (j + 1)).length := by simp; omega
  have e : (l.take (j + 1)).getD (indexI (l.take j) v).toNat 0 = v := by
   have q : (indexI (l.take j) v).toNat < (l.take j).length := by omega
   have q1 : (indexI (l.take j) v).toNat < j := by simp at q; omega
   have q2 : (l.take (j + 1)).getD (indexI (l.take j) v).toNat 0 = (l.take j).getD (indexI (l.take j) v).toNat 0 := by
    simp only [List.getD_eq_getElem?_getD, List.getElem?_take]
    rw [if_pos (by omega), if_pos q1]
   rw [q2]; exact a3
  have := getD_inj hnd (show (indexI (l.take j) v).toNat < (l.take (j + 1)).length by omega) (show (indexI (l.take (j + 1)) v).toNat < (l.take (j + 1)).length by omega) (e.trans b3.symm)
  omega
 ·rw [indexI_none hm, indexI_none fun hm2 => by
   rcases (take_mem h).1 hm2 with h1 | h1
   ·exact hm h1
   ·exact hv h1.symm]
theorem index_yes {l : List Int} {j : Nat} (h : j < l.length) (hn : l.Nodup) : indexI (l.take (j + 1)) (l.getD j 0) = j := by
 have hnd : (l.take (j + 1)).Nodup := hn.sublist (List.take_sublist _ _)
 have hj : j < (l.take (j + 1)).length := by simp; omega
 have e : (l.take (j + 1)).getD j 0 = l.getD j 0 := by
  simp only [List.getD_eq_getElem?_getD, List.getElem?_take]
  rw [if_pos (by omega)]
 have := indexI_gd hnd hj
 rwa [e] at this
theorem backS_no {l : List Int} {k j : Nat} (h : j < l.length) (hv : l.getD j 0 ≠ k) (hn : l.Nodup) : backS l k (j + 1) = backS l k j := by rw [backS, backS, index_no h hv hn]
theorem backS_yes {l : List Int} {k j : Nat} (h : j < l.length) (hv : l.getD j 0 = k) (hn : l.Nodup) : backS l k (j + 1) = (backS l k j).set k j := by
 have h2 := index_yes h hn
 rw [hv] at h2
 have hl : (backL l k).length = k := by simp [backL]
 rw [backS, backS, h2, List.set_append_right _ _ (by omega), hl]
 simp
end Go.AM
namespace Go.Proofs.YtfgcpmeadeehhaaGreat.back
open Go Go.Proofs Go.RowKit Go.AM
theorem info3 : (Tryz.prog.info? 3).map (fun i => (i.zero, i.size, i.bytes)) = some (some (.int .i64 0), 1, 8) := by kernel_rfl
set_option maxHeartbeats 2000000 in
set_option maxRecDepth 100000 in
theorem any (b off n c m : Nat) (zs : List Int) (w : World) (hz : zs.length = n) (hn : n ≤ 1000000) (hm : m ≤ 1000000) (hd : zs.Nodup) (hb : b < w.heap.size) (hc : ∀ j, j < zs.length → w.cell? ⟨b, off + j, none⟩ = some (.int .i64 (zs.getD j 0))) :
  Calls Tryz.prog 80 #[.slice (some ⟨b, off, none⟩) n c, .int .i64 m] w fun e w' => ∃ v, e = .returned v ∧ w'.ownsRow w.heap.size 3 1 v m ((backL zs m).map (Value.int .i64)) ∧ Below w.heap.size w w' := by
 obtain ⟨i0, hi, hz0, hz1, hz2⟩ := info_parts info3
 go_enter Tryz.func80, Tryz.ntmps80
 go_wp2
 go_loopw [5, 6] (fun v i wr => ∃ k : Nat, k ≤ m ∧ i = .int .i64 k ∧ wr.ownsRow w.heap.size 3 1 v k ((backL zs k).map (Value.int .i64)) ∧ Below w.heap.size w wr) (fun _ i _ => m - (intOf i).toNat)
 case atStart => exact ⟨0, Nat.zero_le _, rfl, World.ownsRow_nil _ _ _ _, Below.refl _ _⟩
 case round =>
  obtain ⟨k, hk, rfl, hown, hnx⟩ := hrel
  go_wp2_with (first
   | (at_builtin; refine wpList_append_own _ rfl _ _ 22 rfl w.heap.size 3 i0 (.int .i64 0) 1 8 Tryz.underlying22 hi hz0 hz1 hz2 rfl (by decide) _ _ _ rfl (hown.alloc _) ⟨wr.heap.size, 0, none⟩ 1 1 [.int .i64 (-1)] rfl rfl ?c1 ?c2 ?c3 ?c4 ?c5 ?_)
   | go_in)
  case c1 =>
   intro j u hj
   match j, hj with
   | 0, hj => simp at hj; subst hj; simp [Addr.add]
  case c2 => intro u hu; simp at hu; subst hu; rfl
  case c3 => unfold maxLen; omega
  case c4 => omega
  case c5 => have := hnx.size; simp; omega
  ·intro v' w1 hown' hgrow hne
   have hk' : k < m := by assumption
   obtain ⟨g, cap, rfl, hg1, hg2⟩ := hown'.form (by omega)
   have hnx1 : Below w.heap.size w w1 := (hnx.alloc (by have := hnx.size; omega) _).grown hgrow (by have := hnx.size; simp; omega) (fun q hq => (hown.lt q hq).1)
   rw [show List.map (Value.int .i64) (backL zs k) ++ [Value.int .i64 (-1)] = (backS zs k 0).map (Value.int .i64) by rw [backS_zero]; simp] at hown'
   clear hgrow hown hnx hne
   go_wp2
   go_loopw [7] (fun i wr => ∃ j : Nat, j ≤ n ∧ i = .int .i64 j ∧ wr.ownsRow w.heap.size 3 1 (.slice (some ⟨g, 0, none⟩) (k + 1) cap) (k + 1) ((backS zs k j).map (Value.int .i64)) ∧ Below w.heap.size w wr) (fun i _ => n - (intOf i).toNat)
   case atStart => exact ⟨0, Nat.zero_le _, rfl, hown', hnx1⟩
   case round =>
    clear hown' hnx1
    obtain ⟨j, hj, rfl, hown, hnx⟩ := hrel
    have hcx : j < n → wr.cell? ⟨b, off + j, none⟩ = some (.int .i64 (zs.getD j 0)) := fun h => (hnx.cell (by exact hb)).trans (hc j (by omega))
    have hst := hown.stored k (.int .i64 j)
    have hfz := hown.frozenAt k
    have hck : wr.cell? ⟨g, k, none⟩ = some (.int .i64 ((backS zs k j).getD k 0)) := by
     rw [hown.cellAt k (by omega), List.getElem?_map, List.getElem?_eq_getElem (by rw [backS_len]; omega)]
     simp [show k < (backS zs k j).length by rw [backS_len]; omega]
    go_wp2
    ·have hlt : j < n := by assumption
     have hjl : j < zs.length := by omega
     have h : (zs[j] == (k : Int)) = true := by assumption
     have e : zs.getD j 0 = (k : Int) := by
      have := beq_iff_eq.1 h
      simpa [hjl] using this
     refine ⟨⟨j + 1, by omega, by simp, ?_, hnx.setCell hg1 _⟩, by simp [intOf]; omega⟩
     rw [backS_yes hjl e hd, List.map_set]
     exact hst.1
    ·have hlt : j < n := by assumption
     have hjl : j < zs.length := by omega
     have h : (zs[j] == (k : Int)) = false := by assumption
     have e : zs.getD j 0 ≠ (k : Int) := by
      have := beq_eq_false_iff_ne.1 h
      simpa [hjl] using this
     refine ⟨⟨j + 1, by omega, by simp, ?_, hnx⟩, by simp [intOf]; omega⟩
     rw [backS_no hjl e hd]
     exact hown
    ·have hlt : ¬ j < n := by assumption
     have hjn : j = zs.length := by omega
     rw [hjn, backS_all] at hown
     exact ⟨⟨k + 1, by omega, by simp, hown, hnx⟩, by simp [intOf]; omega⟩
  ·go_ret
   have hk' : ¬ k < m := by assumption
   obtain rfl : k = m := by omega
   exact ⟨_, rfl, hown, hnx⟩
end Go.Proofs.YtfgcpmeadeehhaaGreat.back
namespace Go.Proofs.YtfgcpmeadeehhaaGreat.back
open Go Go.Proofs Go.RowKit Go.AM
set_option maxHeartbeats 2000000 in
set_option maxRecDepth 100000 in
theorem zero (A : Option Addr) (c m : Nat) (w : World) (hm : m ≤ 1000000) :
  Calls Tryz.prog 80 #[.slice A 0 c, .int .i64 m] w fun e w' => ∃ v, e = .returned v ∧ w'.ownsRow w.heap.size 3 1 v m ((backL [] m).map (Value.int .i64)) ∧ Below w.heap.size w w' := by
 obtain ⟨i0, hi, hz0, hz1, hz2⟩ := info_parts info3
 go_enter Tryz.func80, Tryz.ntmps80
 go_wp2
 go_loopw [5, 6] (fun v i wr => ∃ k : Nat, k ≤ m ∧ i = .int .i64 k ∧ wr.ownsRow w.heap.size 3 1 v k ((backL [] k).map (Value.int .i64)) ∧ Below w.heap.size w wr) (fun _ i _ => m - (intOf i).toNat)
 case atStart => exact ⟨0, Nat.zero_le _, rfl, World.ownsRow_nil _ _ _ _, Below.refl _ _⟩
 case round =>
  obtain ⟨k, hk, rfl, hown, hnx⟩ := hrel
  go_wp2_with (first
   | (at_builtin; refine wpList_append_own _ rfl _ _ 22 rfl w.heap.size 3 i0 (.int .i64 0) 1 8 Tryz.underlying22 hi hz0 hz1 hz2 rfl (by decide) _ _ _ rfl (hown.alloc _) ⟨wr.heap.size, 0, none⟩ 1 1 [.int .i64 (-1)] rfl rfl ?c1 ?c2 ?c3 ?c4 ?c5 ?_)
   | go_in)
  case c1 =>
   intro j u hj
   match j, hj with
   | 0, hj => simp at hj; subst hj; simp [Addr.add]
  case c2 => intro u hu; simp at hu; subst hu; rfl
  case c3 => unfold maxLen; omega
  case c4 => omega
  case c5 => have := hnx.size; simp; omega
  ·intro v' w1 hown' hgrow hne
   have hk' : k < m := by assumption
   have hnx1 : Below w.heap.size w w1 := (hnx.alloc (by have := hnx.size; omega) _).grown hgrow (by have := hnx.size; simp; omega) (fun q hq => (hown.lt q hq).1)
   rw [show List.map (Value.int .i64) (backL [] k) ++ [Value.int .i64 (-1)] = (backL [] (k + 1)).map (Value.int .i64) by rw [backL_succ]; simp [indexI]] at hown'
   clear hgrow hown hnx hne
   go_wp2
   go_loopw [7] (fun i wr => i = .int .i64 0 ∧ wr = w1) (fun i _ => 0)
   case atStart => exact ⟨rfl, rfl⟩
   case round =>
    obtain ⟨rfl, rfl⟩ := hrel
    go_wp2
    exact ⟨⟨k + 1, by omega, by simp, hown', hnx1⟩, by simp [intOf]; omega⟩
  ·go_ret
   have hk' : ¬ k < m := by assumption
   obtain rfl : k = m := by omega
   exact ⟨_, rfl, hown, hnx⟩
end Go.Proofs.YtfgcpmeadeehhaaGreat.back
namespace Go.AM
open Go Go.Proofs Go.RowKit
end Go.AM
namespace Go.AM
open Go
def upP (ps : List Int) (i : Nat) : List Int := if _h : 0 ≤ ps.getD i 0 ∧ (ps.getD i 0).toNat < i then (i : Int) :: upP ps (ps.getD i 0).toNat else [(i : Int)]
termination_by i
decreasing_by exact _h.2
def upI (ps : List Int) (a : Int) : List Int := if a < 0 then [] else upP ps a.toNat
theorem upI_neg {ps : List Int} {a : Int} (h : a < 0) : upI ps a = [] := if_pos h
theorem upI_up {ps : List Int} {a : Int} (h : 0 ≤ a) (hp : ps.getD a.toNat 0 < a) : upI ps a = a :: upI ps (ps.getD a.toNat 0) := by
 rw [upI, if_neg (by omega), upP]
 by_cases h0 : 0 ≤ ps.getD a.toNat 0
 ·rw [dif_pos ⟨h0, by omega⟩, upI, if_neg (by omega), Int.toNat_of_nonneg h]
 ·rw [dif_neg (fun h2 => h0 h2.1), upI, if_pos (by omega), Int.toNat_of_nonneg h]
theorem upP_len (ps : List Int) : ∀ n i, i < n → (upP ps i).length ≤ i + 1
 | 0, i, h => absurd h (Nat.not_lt_zero _)
 | n + 1, i, h => by
  rw [upP]
  split
  ·rename_i h1
   have := upP_len ps n _ (show (ps.getD i 0).toNat < n by omega)
   simp only [List.length_cons]
   omega
  ·simp
theorem upI_len (ps : List Int) (a : Int) : (upI ps a).length ≤ (a + 1).toNat := by
 unfold upI
 split
 ·simp
 ·have := upP_len ps _ _ (Nat.lt_succ_self a.toNat)
  omega
end Go.AM
namespace Go.Proofs.YtfgcpmeadeehhaaGreat.line
open Go Go.Proofs Go.RowKit Go.AM Go.Sort
theorem own_le {w : World} {base base' : Nat} {e : TypeId} {size : Nat} {v : Value} {n : Nat} {xs : List Value} (h : w.ownsRow base e size v n xs) (hb : base' ≤ base) : w.ownsRow base' e size v n xs :=
 ⟨h.1, h.2.imp id fun ⟨g, cap, cur, a, b, c⟩ => ⟨g, cap, cur, a, Nat.le_trans hb b, c⟩⟩
theorem rev {base n : Nat} {v : Value} {l : List Int} {w0 w : World} (hown : w.ownsRow base 3 1 v n (l.map (Value.int .i64))) (hb : Below base w0 w) (hl : l.length ≤ 1000000) :
  Calls Tryz.prog 256 #[v] w fun e w' => e = .returned (.tuple #[]) ∧ w'.ownsRow base 3 1 v n (l.reverse.map (Value.int .i64)) ∧ Below base w0 w' := by
 rcases hown.2 with ⟨rfl, e0⟩ | ⟨g, cap, cur, rfl, hg1, hg2, hg3, hg4, hg5, hg6⟩
 ·refine (Tryz.slices_Reverse_int_empty _ _ _).mono ?_
  rintro e w3 ⟨rfl, rfl⟩
  subst e0
  have : l = [] := List.length_eq_zero_iff.1 (by simpa using hown.1)
  subst this
  exact ⟨rfl, hown, hb⟩
 ·obtain ⟨g', cap', hv, hgb, hgl, hncap, hcm, hlen, hH⟩ := Lib.holds_of_ownsRow hown (by simp)
  cases hv
  have hrev := Tryz.slices_Reverse_int g 0 cap l _ hH (by omega)
  rw [hlen] at hrev
  refine hrev.mono ?_
  rintro e w3 ⟨rfl, q, rfl⟩
  have hh := Lib.ownsRow_putRow (q := q) (ys := l.reverse) hown (by simpa using hlen) (Nat.le_refl _)
  rw [List.take_of_length_le (by simp [hlen])] at hh
  exact ⟨rfl, hh, Lib.below_putRow hb hg1⟩
set_option maxHeartbeats 2000000 in
set_option maxRecDepth 100000 in
theorem any (b off n c : Nat) (u : Value) (a0 : Int) (ps : List Int) (w : World) (hz : ps.length = n) (hn : n ≤ 1000000) (ha : a0 < n) (hp : ∀ j, j < n → ps.getD j 0 < j) (hb : b < w.heap.size) (hc : ∀ j, j < n → w.cell? ⟨b, off + j * 4 + 1, none⟩ = some (.int .i64 (ps.getD j 0))) :
  Calls Tryz.prog 225 #[.agg #[.slice (some ⟨b, off, none⟩) n c, u], .int .i64 a0] w fun e w' => ∃ v, e = .returned v ∧ w'.ownsRow w.heap.size 3 1 v (upI ps a0).length ((upI ps a0).reverse.map (Value.int .i64)) ∧ Below w.heap.size w w' := by
 obtain ⟨i0, hi, hz0, hz1, hz2'⟩ := info_parts YtfgcpmeadeehhaaGreat.back.info3
 go_enter Tryz.func225, Tryz.ntmps225
 go_wp2
 have hsz : (w.alloc (Obj.cells #[Value.slice (some { block := b, off := off }) n c, u] 49)).heap.size = w.heap.size + 1 := by unfold World.alloc; exact Array.size_push _
 have hz2 : (w.alloc (Obj.cells #[Value.slice (some { block := b, off := off }) n c, u] 49)).cell? ⟨w.heap.size, 0, none⟩ = some (Value.slice (some { block := b, off := off }) n c) := by rw [World.cell?_alloc_at _ _ _ _ rfl]; rfl
 have hcc : ∀ j, j < n → (w.alloc (Obj.cells #[Value.slice (some { block := b, off := off }) n c, u] 49)).cell? ⟨b, off + j * 4 + 1, none⟩ = some (.int .i64 (ps.getD j 0)) := fun j hj => ((Below.refl _ w).alloc (Nat.le_refl _) _ |>.cell (by exact hb)).trans (hc j hj)
 have hbel : Below w.heap.size w (w.alloc (Obj.cells #[Value.slice (some { block := b, off := off }) n c, u] 49)) := (Below.refl _ w).alloc (Nat.le_refl _) _
 generalize w.alloc (Obj.cells #[Value.slice (some { block := b, off := off }) n c, u] 49) = w1 at *
 go_loopw [1, 5] (fun x v wr => ∃ (a : Int) (l : List Int), x = .int .i64 a ∧ a < n ∧ l ++ upI ps a = upI ps a0 ∧ wr.ownsRow w1.heap.size 3 1 v l.length (l.map (Value.int .i64)) ∧ Below w1.heap.size w1 wr) (fun x _ _ => (intOf x + 1).toNat)
 case atStart => exact ⟨a0, [], rfl, ha, rfl, World.ownsRow_nil _ _ _ _, Below.refl _ _⟩
 case round =>
  obtain ⟨a, l, rfl, hal, hl, hown, hnx⟩ := hrel
  have hll : l.length ≤ n := by
   have h1 := congrArg List.length hl
   have h2 := upI_len ps a0
   rw [List.length_append] at h1
   omega
  have hr2 := (hnx.cell (p := ⟨w.heap.size, 0, none⟩) (by simp; omega)).trans hz2
  go_wp2_with (first
   | (at_builtin; refine wpList_append_own _ rfl _ _ 22 rfl w1.heap.size 3 i0 (.int .i64 0) 1 8 Tryz.underlying22 hi hz0 hz1 hz2' rfl (by decide) _ _ _ rfl (hown.alloc _) ⟨wr.heap.size, 0, none⟩ 1 1 [.int .i64 a] rfl rfl ?c1 ?c2 ?c3 ?c4 ?c5 ?_)
   | (go_at_call 256; refine (rev hown hnx (by omega)).mono ?_; rintro e w3 ⟨rfl, hown3, hnx3⟩)
   | go_in)
  case c1 =>
   intro j u hj
   match j, hj with
   | 0, hj => simp at hj; subst hj; simp [Addr.add]
  case c2 => intro u hu; simp at hu; subst hu; rfl
  case c3 => unfold maxLen; omega
  case c4 => omega
  case c5 => have := hnx.size; simp; omega
  ·intro v' w2 hown' hgrow hne
   have h0 : 0 ≤ a := by assumption
   obtain ⟨k, rfl⟩ := Int.eq_ofNat_of_zero_le h0
   have hnx1 : Below w1.heap.size w1 w2 := (hnx.alloc (by have := hnx.size; omega) _).grown hgrow (by have := hnx.size; simp; omega) (fun q hq => (hown.lt q hq).1)
   have hr3 := (hnx1.cell (p := ⟨w.heap.size, 0, none⟩) (by simp; omega)).trans hz2
   have hr4 := (hnx1.cell (p := ⟨b, off + k * 4 + 1, none⟩) (by simp; omega)).trans (hcc k (by omega))
   have hup := upI_up (ps := ps) h0 (by have := hp k (by omega); simpa using this)
   rw [hup, Int.toNat_natCast] at hl
   clear hgrow hown hnx hne
   go_wp2
   refine ⟨⟨ps.getD k 0, l ++ [(k : Int)], rfl, by have := hp k (by omega); omega, by rw [List.append_assoc]; exact hl, by simpa [hsz] using hown', hnx1⟩, ?_⟩
   have := hp k (by omega)
   simp at this
   simp [intOf]
   omega
  ·go_ret
   have h0 : a < 0 := by assumption
   rw [upI_neg h0, List.append_nil] at hl
   rw [← hl]
   exact ⟨_, rfl, own_le hown3 (by omega), hbel.trans (hnx3.mono (by omega))⟩
end Go.Proofs.YtfgcpmeadeehhaaGreat.line
namespace Go.AM
open Go Go.Proofs Go.RowKit
abbrev Ty.pars (t : Ty) : List Int := t.nodes.map NT.par
theorem pars_getD (t : Ty) {j : Nat} (h : j < t.nodes.length) : t.pars.getD j 0 = (t.nd j).par := by simp [Ty.pars, Ty.nd, h]
theorem rvd_pars {c : Addr → Option Value} {ps : Addr → Prop} {l : List NT} {v : Value} (h : RVd c ps (nts l) v) :
  ∃ A cap, v = .slice A l.length cap ∧ l.length ≤ cap ∧ cap ≤ maxLen ∧ (l ≠ [] → ∃ a, A = some a) ∧ ∀ a, A = some a → ∀ i (hi : i < l.length), c (a.add (i * 4)) = some (.string l[i].name) ∧ c (a.add (i * 4 + 1)) = some (.int .i64 l[i].par) := by
 unfold nts at h
 generalize hes : l.map NT.cells = es at h
 cases h with
 | @sl _ _ A cap u hcap hmax hsz hA hc hr =>
  have hl : es.length = l.length := by rw [← hes]; simp
  refine ⟨A, cap, by rw [hl], by omega, hmax, fun hne => hA (by intro e; rw [e] at hl; exact hne (List.length_eq_zero_iff.1 hl.symm)), fun a ha i hi => ⟨?_, ?_⟩⟩
  ·have g := (hc a ha i 0 (by omega) (by decide)).2
   have r := hr i 0 (by omega) (by rw [hsz _ (List.getElem_mem _)]; decide)
   have e1 : es[i][0]'(by rw [hsz _ (List.getElem_mem _)]; decide) = D.raw (.string l[i].name) := by
    subst hes
    simp
   rw [e1] at r
   have e2 : u i 0 = .string l[i].name := by
    generalize hu : u i 0 = x at r
    cases r
    rfl
   rw [← e2]; exact g
  ·have g := (hc a ha i 1 (by omega) (by decide)).2
   have r := hr i 1 (by omega) (by rw [hsz _ (List.getElem_mem _)]; decide)
   have e1 : es[i][1]'(by rw [hsz _ (List.getElem_mem _)]; decide) = D.raw (.int .i64 l[i].par) := by
    subst hes
    simp
   rw [e1] at r
   have e2 : u i 1 = .int .i64 l[i].par := by
    generalize hu : u i 1 = x at r
    cases r
    rfl
   rw [← e2]; exact g
theorem line_c (t : Ty) (ht : t.nodes.length ≤ 1000000) (a : Int) (h0 : 0 ≤ a) (ha : a < t.nodes.length) (hp : ∀ j, j < t.nodes.length → (t.nd j).par < j) (tok : Tks) (nt : Nat) : DCall Tryz.prog 225 [t.av, I a] tok nt (.d (ints (upI t.pars a).reverse)) tok nt := by
 intro box nb
 refine ⟨Enters.mk Tryz.func225 rfl (by kernel_rfl), fun G w vals hm hr => ?_⟩
 obtain ⟨hlen, hrv⟩ := hr
 match vals, hlen with
 | [v, x], _ =>
  have h0 := hrv 0 (by simp) (by simp)
  have h1 := hrv 1 (by simp) (by simp)
  simp only [List.getElem_cons_zero, List.getElem_cons_succ] at h0 h1
  cases h1 with
  | d h1 =>
  cases h1 with
  | raw h1 =>
  cases h0 with
  | @agg _ vs hl h2 h3 =>
   match vs, hl with
   | [v1, v2], _ =>
    have h4 := h2 0 (by simp) (by simp)
    simp only [List.getElem_cons_zero] at h4
    cases h4 with
    | d h4 =>
     obtain ⟨A, cap, rfl, hcap, hmax, hA, hc⟩ := rvd_pars h4
     have e : t.nodes ≠ [] := by intro e; rw [e] at ha; simp at ha; omega
     obtain ⟨a1, rfl⟩ := hA e
     have hp0 : 0 < t.nodes.length := List.length_pos_iff.2 e
     have hc' := hc a1 rfl
     have hs : a1.spot = none := by
      cases hsp : a1.spot with
      | none => rfl
      | some q =>
       exfalso
       have := (hc' 0 hp0).1
       simp only [World.cell?, Addr.add, hsp, Option.isSome_some, ↓reduceIte] at this
       split at this <;> simp at this
     obtain ⟨b, off, sp⟩ := a1
     simp only at hs
     subst hs
     have hcc : ∀ j, j < t.nodes.length → w.cell? ⟨b, off + j * 4 + 1, none⟩ = some (.int .i64 (t.pars.getD j 0)) := fun j hj => by
      have h1 := (hc' j hj).2
      rw [pars_getD t hj, nd_at hj]
      unfold Addr.add at h1
      split at h1
      ·rename_i e; omega
      ·rw [show off + j * 4 + 1 = off + (j * 4 + 1) by omega]; exact h1
     have hbw : b < w.heap.size := lt_of_cell (hcc 0 hp0)
     refine (YtfgcpmeadeehhaaGreat.line.any b off t.nodes.length cap v2 a t.pars w (by simp) ht (by omega) (fun j hj => by rw [pars_getD t hj]; exact hp j hj) hbw hcc).mono ?_
     rintro e w' ⟨v, rfl, hown, hb⟩
     refine ⟨v, _, _, G, rfl, ⟨rfl, rfl⟩, rfl, relM_below hm hb, .d (rvd_owns hm (by rw [List.length_reverse]; exact hown)), le_below hm hb, fun k hk => ⟨hk, rfl⟩⟩
end Go.AM
namespace Go.AM
open Go Go.Proofs
theorem Ty.Fit.hM {t : Ty} (h : t.Fit) (i : Nat) : (t.nd i).own.length ≤ 1000 := by
 by_cases hi : i < t.nodes.length
 ·rw [nd_at hi]; exact (h.a _ (List.getElem_mem hi)).1
 ·simp [Ty.nd, List.getElem?_eq_none (Nat.le_of_not_lt hi)]
  exact Nat.zero_le _
theorem given1_c (t : Ty) (n : Int) (box : Bxs) (nb k : Nat) (tok : Tks) (nt : Nat) (h1 : box k = some [[.d (nts t.nodes), .d (ets t.edges)]]) :
  ACalls Tryz.prog 224 [I n, .ptr k 0 0] ⟨box, nb, tok, nt⟩ fun v m => v = B (!insB t n) ∧ m = ⟨box, nb, tok, nt⟩ := by
 by_cases h0 : n < 0
 ·rw [show insB t n = false by simp only [insB, decide_eq_false_iff_not]; omega]
  refine sB Tryz.func224 Tryz.ntmps224 ?_
  intro hbox htok
  simp only at hbox htok
  apply AL.start
  have k1n := key_lt hbox h1
  try (simp [lb_out k1n, h1, h0])
  repeat (refine sR ?_; simp [lb_out k1n, h1, h0])
  refine sT ?_
  try simp only [AU]
  refine ⟨by simp, sF hbox htok (fun _ h => h) (Nat.le_refl _) ?_⟩
  simp [packA]
 ·by_cases h2 : (t.nodes.length : Int) ≤ n
  ·rw [show insB t n = false by simp only [insB, decide_eq_false_iff_not]; omega]
   refine sB Tryz.func224 Tryz.ntmps224 ?_
   intro hbox htok
   simp only at hbox htok
   apply AL.start
   have k1n := key_lt hbox h1
   try (simp [lb_out k1n, h1, h0, h2])
   repeat (refine sR ?_; simp [lb_out k1n, h1, h0, h2])
   refine sT ?_
   try simp only [AU]
   refine ⟨by simp, sF hbox htok (fun _ h => h) (Nat.le_refl _) ?_⟩
   simp [packA]
  ·rw [show insB t n = true by simp only [insB, decide_eq_true_eq]; omega]
   refine sB Tryz.func224 Tryz.ntmps224 ?_
   intro hbox htok
   simp only at hbox htok
   apply AL.start
   have k1n := key_lt hbox h1
   try (simp [lb_out k1n, h1, h0, h2])
   repeat (refine sR ?_; simp [lb_out k1n, h1, h0, h2])
   refine sT ?_
   try simp only [AU]
   refine ⟨by simp, sF hbox htok (fun _ h => h) (Nat.le_refl _) ?_⟩
   simp [packA]
def givE (t : Ty) (l : List Int) : Int := if tyE t = 0 then (if anyB (fun a => !insB t a) l = true then 6 else 0) else tyE t
theorem given_c (t : Ty) (ht : t.Fit) (l : List Int) (hl : l.length ≤ 1000000) (tok : Tks) (nt : Nat) : DCall Tryz.prog 173 [t.av, .d (ints l)] tok nt (I (givE t l)) tok nt := by
 intro box nb
 have h1 := valid_c4 t ht ht.hM
 obtain ⟨N, hN⟩ : ∃ N, givE t l = N := ⟨_, rfl⟩
 rw [hN]
 unfold givE at hN
 generalize tyE t = E at *
 generalize tyN t = Z at *
 refine sB Tryz.func173 Tryz.ntmps173 ?_
 intro hbox htok
 simp only at hbox htok
 apply AL.start
 try (simp)
 repeat (refine sR ?_; simp)
 refine Stop.of_d (h1 _ _) ?_
 simp
 try (simp)
 repeat (refine sR ?_; simp)
 by_cases e1 : E = 0
 ·rw [if_pos e1] at hN
  obtain ⟨p, hpp⟩ : ∃ p : Int → Bool, (fun a => !insB t a) = p := ⟨_, rfl⟩
  have h2 := fun y box nb k hbk => given1_c t y box nb k tok nt hbk
  have hpy : ∀ y : Int, (!insB t y) = p y := fun y => by rw [← hpp]
  simp only [hpy] at h2
  rw [hpp] at hN
  refine sC ?_
  simp [e1]
  try (simp)
  repeat (refine sR ?_; simp)
  refine Stop.of_b (containsFunc_c l 224 [.ptr (nb + 2) 0 0] p hl _ _ _ _ (fun c hc => by rw [List.mem_singleton.1 hc]; simp [lb_at]) (fun y hy box' nb' he => h2 y box' nb' _ (he _ _ (by simp [lb_at])))) ?_
  simp
  cases e2 : anyB p l
  ·rw [e2, if_neg (by simp)] at hN
   try (simp)
   repeat (refine sR ?_; simp)
   refine sC ?_
   simp
   try (simp)
   repeat (refine sR ?_; simp)
   refine sT ?_
   try simp only [AU]
   refine ⟨by simp, sF hbox htok (fun _ h => h) (Nat.le_refl _) ?_⟩
   simp [packA, ← hN]
  ·rw [e2, if_pos rfl] at hN
   try (simp)
   repeat (refine sR ?_; simp)
   refine sC ?_
   simp
   try (simp)
   repeat (refine sR ?_; simp)
   refine sT ?_
   try simp only [AU]
   refine ⟨by simp, sF hbox htok (fun _ h => h) (Nat.le_refl _) ?_⟩
   simp [packA, ← hN]
 ·rw [if_neg e1] at hN
  have b1 : (E != 0) = true := by simp [e1]
  refine sC ?_
  simp [b1]
  try (simp)
  repeat (refine sR ?_; simp)
  refine sT ?_
  try simp only [AU]
  refine ⟨by simp, sF hbox htok (fun _ h => h) (Nat.le_refl _) ?_⟩
  simp [packA, ← hN]
def isB (t : Ty) (a b : Int) : Bool := decide (b ∈ upI t.pars a)
theorem is_c (t : Ty) (ht : t.Fit) (a b : Int) (h0 : 0 ≤ a) (ha : a < t.nodes.length) (hp : ∀ j, j < t.nodes.length → (t.nd j).par < j) (tok : Tks) (nt : Nat) : DCall Tryz.prog 174 [t.av, I a, I b] tok nt (B (isB t a b)) tok nt := by
 intro box nb
 have hc := line_c t (by have := ht.n; omega) a h0 ha hp
 have hlen := upI_len t.pars a
 have htn := ht.n
 obtain ⟨N, hN⟩ : ∃ N, isB t a b = N := ⟨_, rfl⟩
 rw [hN]
 unfold isB at hN
 have hN2 : decide (b ∈ (upI t.pars a).reverse) = N := by rw [← hN]; simp
 have hl2 : (upI t.pars a).reverse.length ≤ 1000000 := by rw [List.length_reverse]; omega
 generalize (upI t.pars a).reverse = L at *
 have hk := contains_c L b hl2
 rw [hN2] at hk
 refine sB Tryz.func174 Tryz.ntmps174 ?_
 intro hbox htok
 simp only at hbox htok
 apply AL.start
 try (simp)
 repeat (refine sR ?_; simp)
 refine Stop.of_d (hc _ _) ?_
 simp
 try (simp)
 repeat (refine sR ?_; simp)
 refine Stop.of_d (hk _ _) ?_
 simp
 try (simp)
 repeat (refine sR ?_; simp)
 refine sT ?_
 try simp only [AU]
 refine ⟨by simp, sF hbox htok (fun _ h => h) (Nat.le_refl _) ?_⟩
 simp [packA]
theorem tyE_par {t : Ty} (h : tyE t = 0) : ∀ j, j < t.nodes.length → (t.nd j).par < j := by
 unfold tyE at h
 split at h
 ·cases h
 ·split at h
  ·cases h
  ·split at h
   ·cases h
   ·split at h
    ·rename_i h1
     exact absurd h h1
    ·rename_i h1
     exact fun j hj => nodE_par (firstE_allZ _ (Decidable.not_not.1 h1) j hj)
def fitB (t : Ty) (e a b : Int) : Bool :=
 if givE t [a, b] = 0 then (if 0 ≤ e then (if e < t.edges.length then (if isB t a (t.ed e.toNat).fr = true then isB t b (t.ed e.toNat).to else false) else false) else false) else false
theorem givE_in {t : Ty} {l : List Int} (h : givE t l = 0) : tyE t = 0 ∧ ∀ a ∈ l, 0 ≤ a ∧ a < t.nodes.length := by
 unfold givE at h
 split at h
 ·rename_i h1
  split at h
  ·cases h
  ·rename_i h2
   refine ⟨h1, fun a ha => ?_⟩
   simp only [anyB, List.any_eq_true, not_exists, not_and] at h2
   have := h2 a ha
   simpa [insB] using this
 ·rename_i h1
  exact absurd h h1
theorem fits_c4 (t : Ty) (ht : t.Fit) (e a b : Int) (tok : Tks) (nt : Nat) : DCall Tryz.prog 112 [t.av, I e, I a, I b] tok nt (B (fitB t e a b)) tok nt := by
 intro box nb
 have h1 := given_c t ht [a, b] (by simp)
 have hin := @givE_in t [a, b]
 obtain ⟨N, hN⟩ : ∃ N, fitB t e a b = N := ⟨_, rfl⟩
 rw [hN]
 unfold fitB at hN
 generalize givE t [a, b] = E at *
 refine sB Tryz.func112 Tryz.ntmps112 ?_
 intro hbox htok
 simp only at hbox htok
 apply AL.start
 try (simp)
 repeat (refine sR ?_; simp)
 refine ⟨rfl, ?_⟩
 refine Stop.data ?_
 refine Stop.of_d (h1 _ _) ?_
 simp
 by_cases e1 : E = 0
 ·obtain ⟨htE, hin⟩ := hin e1
  have ha := hin a (by simp)
  have hb := hin b (by simp)
  rw [if_pos e1] at hN
  by_cases e2 : 0 ≤ e
  ·have e2' : ¬ e < 0 := by omega
   rw [if_pos e2] at hN
   by_cases e3 : e < t.edges.length
   ·have e3' : ¬ (t.edges.length : Int) ≤ e := by omega
    rw [if_pos e3] at hN
    obtain ⟨k, rfl⟩ := Int.eq_ofNat_of_zero_le e2
    have hk : k < t.edges.length := by omega
    rw [Int.toNat_natCast, ed_at hk] at hN
    have c1 := is_c t ht a t.edges[k].fr ha.1 ha.2 (tyE_par htE)
    have c2 := is_c t ht b t.edges[k].to hb.1 hb.2 (tyE_par htE)
    try (simp [e1, e2', e3', hk])
    repeat (refine sR ?_; simp [e1, e2', e3', hk])
    refine sC ?_
    simp [e1, e2', e3', hk]
    try (simp [hk])
    repeat (refine sR ?_; simp [hk])
    refine Stop.of_d (c1 _ _) ?_
    simp
    cases f1 : isB t a t.edges[k].fr
    ·rw [f1, if_neg (by simp)] at hN
     try (simp)
     repeat (refine sR ?_; simp)
     refine sT ?_
     try simp only [AU]
     refine ⟨by simp, sF hbox htok (fun _ h => h) (Nat.le_refl _) ?_⟩
     simp [packA, ← hN]
    ·rw [f1, if_pos rfl] at hN
     try (simp [hk])
     repeat (refine sR ?_; simp [hk])
     refine Stop.of_d (c2 _ _) ?_
     simp
     try (simp)
     repeat (refine sR ?_; simp)
     refine sT ?_
     try simp only [AU]
     refine ⟨by simp, sF hbox htok (fun _ h => h) (Nat.le_refl _) ?_⟩
     simp [packA, ← hN]
   ·have e3' : (t.edges.length : Int) ≤ e := by omega
    rw [if_neg e3] at hN
    try (simp [e1, e2', e3'])
    repeat (refine sR ?_; simp [e1, e2', e3'])
    refine sC ?_
    simp [e1, e2', e3']
    try (simp)
    repeat (refine sR ?_; simp)
    refine sT ?_
    try simp only [AU]
    refine ⟨by simp, sF hbox htok (fun _ h => h) (Nat.le_refl _) ?_⟩
    simp [packA, ← hN]
  ·have e2' : e < 0 := by omega
   rw [if_neg e2] at hN
   try (simp [e1, e2'])
   repeat (refine sR ?_; simp [e1, e2'])
   refine sC ?_
   simp [e1, e2']
   try (simp)
   repeat (refine sR ?_; simp)
   refine sT ?_
   try simp only [AU]
   refine ⟨by simp, sF hbox htok (fun _ h => h) (Nat.le_refl _) ?_⟩
   simp [packA, ← hN]
 ·rw [if_neg e1] at hN
  have b1 : (E != 0) = true := by simp [e1]
  try (simp [b1])
  repeat (refine sR ?_; simp [b1])
  refine sC ?_
  simp [b1]
  try (simp)
  repeat (refine sR ?_; simp)
  refine sT ?_
  try simp only [AU]
  refine ⟨by simp, sF hbox htok (fun _ h => h) (Nat.le_refl _) ?_⟩
  simp [packA, ← hN]
end Go.AM
namespace Go.AM
open Go Go.Proofs
def leafB (t : Ty) (k : Int) : Bool := !anyB (fun n => n.par == k) t.nodes
theorem leaf1_c (x : NT) (y : Int) (box : Bxs) (nb k : Nat) (tok : Tks) (nt : Nat) (h1 : box k = some [[I y]]) :
  ACalls Tryz.prog 171 [x.av, .ptr k 0 0] ⟨box, nb, tok, nt⟩ fun v m => v = B (x.par == y) ∧ m = ⟨box, nb, tok, nt⟩ := by
 refine sB Tryz.func171 Tryz.ntmps171 ?_
 intro hbox htok
 simp only at hbox htok
 apply AL.start
 have k1n := key_lt hbox h1
 try (simp [lb_out k1n, h1])
 repeat (refine sR ?_; simp [lb_out k1n, h1])
 refine sT ?_
 try simp only [AU]
 refine ⟨by simp, sF hbox htok (fun _ h => h) (Nat.le_refl _) ?_⟩
 simp [packA]
theorem leaf_c (t : Ty) (ht : t.nodes.length ≤ 1000000) (k : Int) (tok : Tks) (nt : Nat) : DCall Tryz.prog 107 [t.av, I k] tok nt (B (leafB t k)) tok nt := by
 intro box nb
 obtain ⟨p, hpp⟩ : ∃ p : NT → Bool, (fun n => n.par == k) = p := ⟨_, rfl⟩
 have h2 := fun y box nb q hbk => leaf1_c y k box nb q tok nt hbk
 have hpy : ∀ y : NT, (y.par == k) = p y := fun y => by rw [← hpp]
 simp only [hpy] at h2
 unfold leafB
 rw [hpp]
 refine sB Tryz.func107 Tryz.ntmps107 ?_
 intro hbox htok
 simp only at hbox htok
 apply AL.start
 try (simp)
 repeat (refine sR ?_; simp)
 refine Stop.of_b (containsFuncN_c t.nodes 171 [.ptr (nb + 3) 0 0] p ht _ _ _ _ (fun c hc => by rw [List.mem_singleton.1 hc]; simp [lb_at]) (fun y hy box' nb' he => h2 y box' nb' _ (he _ _ (by simp [lb_at])))) ?_
 simp
 try (simp)
 repeat (refine sR ?_; simp)
 refine sT ?_
 try simp only [AU]
 refine ⟨by simp, sF hbox htok (fun _ h => h) (Nat.le_refl _) ?_⟩
 simp [packA]
def allP {α : Type} (p : α → Bool) (l : List α) : Bool := l.all p
theorem all_no {α : Type} {p : α → Bool} {l : List α} {i : Nat} (h : i < l.length) (hp : p l[i] = false) : allP p l = false := by
 unfold allP
 rw [← Bool.not_eq_true, List.all_eq_true]
 intro h2
 have := h2 _ (List.getElem_mem h)
 rw [hp] at this
 cases this
theorem all_more {α : Type} {p : α → Bool} {l : List α} {i : Nat} (h : i < l.length) (h1 : allP p (l.take i) = true) (hp : p l[i] = true) : allP p (l.take (i + 1)) = true := by
 unfold allP at *
 rw [List.take_succ_eq_append_getElem h, List.all_append, h1]
 simp [hp]
def lvN (t : Ty) (n : Int) : Bool := if (t.nodes.length : Int) ≤ n then false else leafB t n
def lvE (t : Ty) (g : Gr) (e : E) : Bool := fitB t e.ty (g.nodes.getD e.fr.toNat 0) (g.nodes.getD e.to.toNat 0)
def lvsB (t : Ty) (g : Gr) : Bool := if allP (lvN t) g.nodes = true then allP (lvE t g) g.edges else false
theorem leaves1_c (t : Ty) (ht : t.Fit) (g : Gr) (e : E) (h0 : 0 ≤ e.fr ∧ e.fr < g.nodes.length) (h2 : 0 ≤ e.to ∧ e.to < g.nodes.length) (box : Bxs) (nb k1 k2 : Nat) (tok : Tks) (nt : Nat) (h1 : box k1 = some [[.d (nts t.nodes), .d (ets t.edges)]]) (h3 : box k2 = some [[.d (ints g.nodes), .d (AM.edges g.edges)]]) :
  ACalls Tryz.prog 172 [.agg [I e.ty, I e.fr, I e.to], .ptr k1 0 0, .ptr k2 0 0] ⟨box, nb, tok, nt⟩ fun v m => v = B (!lvE t g e) ∧ m = ⟨box, nb, tok, nt⟩ := by
 obtain ⟨ty, fr, to'⟩ := e
 simp only at h0 h2
 obtain ⟨a, rfl⟩ := Int.eq_ofNat_of_zero_le h0.1
 obtain ⟨b, rfl⟩ := Int.eq_ofNat_of_zero_le h2.1
 have ha : a < g.nodes.length := by omega
 have hb : b < g.nodes.length := by omega
 have hc := fits_c4 t ht ty g.nodes[a] g.nodes[b]
 have hL : lvE t g ⟨ty, a, b⟩ = fitB t ty g.nodes[a] g.nodes[b] := by simp [lvE, ha, hb]
 rw [hL]
 generalize fitB t ty g.nodes[a] g.nodes[b] = R at *
 refine sB Tryz.func172 Tryz.ntmps172 ?_
 intro hbox htok
 simp only at hbox htok
 apply AL.start
 have k1n := key_lt hbox h1
 have k2n := key_lt hbox h3
 try (simp [lb_out k1n, lb_out k2n, h1, h3, ha, hb])
 repeat (refine sR ?_; simp [lb_out k1n, lb_out k2n, h1, h3, ha, hb])
 refine Stop.of_d (hc _ _) ?_
 simp
 try (simp)
 repeat (refine sR ?_; simp)
 refine sT ?_
 try simp only [AU]
 refine ⟨by simp, sF hbox htok (fun _ h => h) (Nat.le_refl _) ?_⟩
 simp [packA]
def stLv (t : Ty) (g : Gr) (nb : Nat) (box : Bxs) (tok : Tks) (nt : Nat) (i : Nat) : AState :=
 ⟨tl [(10, I i), (9, I g.nodes.length), (8, .d (ints g.nodes)), (3, .ptr (nb + 3) 0 0), (2, .ptr (nb + 2) 0 0)], lb nb box [(3, [[.d (ints g.nodes), .d (AM.edges g.edges)]]), (2, [[.d (nts t.nodes), .d (ets t.edges)]])], tok, nt⟩
theorem leaves_c (t : Ty) (ht : t.Fit) (g : Gr) (hg : g.Fit) (hv : ∀ e ∈ g.edges, 0 ≤ e.fr ∧ e.fr < g.nodes.length ∧ 0 ≤ e.to ∧ e.to < g.nodes.length) (tok : Tks) (nt : Nat) : DCall Tryz.prog 108 [t.av, g.av] tok nt (B (lvsB t g)) tok nt := by
 intro box nb
 have hgn := hg.n
 have hge := hg.e
 have htn := ht.n
 obtain ⟨N, hN⟩ : ∃ N, lvsB t g = N := ⟨_, rfl⟩
 rw [hN]
 unfold lvsB at hN
 refine sB Tryz.func108 Tryz.ntmps108 ?_
 intro hbox htok
 simp only at hbox htok
 apply AL.start
 try (simp)
 repeat (refine sR ?_; simp)
 refine sN ?_
 refine AL.loopT (stLv t g nb box tok nt) (fun i => i ≤ g.nodes.length ∧ allP (lvN t) (g.nodes.take i) = true) (fun i => g.nodes.length - i) 0 ⟨Nat.zero_le _, by simp [allP]⟩ (Weaks.mk (Nat.le_refl _) rfl (by simp [ToL, lk, lb_at]) (by simp [BoxL, lk])) ?_
 rintro i S' ⟨hi, hok⟩ hS
 simp only [stLv] at hS
 subst hS
 have hw := sW (i := i) (by omega)
 try (simp)
 repeat (refine sR ?_; simp)
 refine sC ?_
 simp
 refine ⟨fun hlt => ?_, fun hge => ?_⟩
 ·have hno := fun h => all_no (p := lvN t) hlt h
  have hyes := fun h => all_more (p := lvN t) hlt hok h
  have hl : lvN t g.nodes[i] = if (t.nodes.length : Int) ≤ g.nodes[i] then false else leafB t g.nodes[i] := rfl
  have hc := leaf_c t (by omega) g.nodes[i]
  by_cases e1 : (t.nodes.length : Int) ≤ g.nodes[i]
  ·rw [if_pos e1] at hl
   rw [hno hl, if_neg (by simp)] at hN
   try (simp [hlt, e1])
   repeat (refine sR ?_; simp [hlt, e1])
   refine sC ?_
   simp [e1]
   try (simp)
   repeat (refine sR ?_; simp)
   refine sT ?_
   try simp only [AU]
   refine ⟨by simp, sF hbox htok (fun _ h => h) (Nat.le_refl _) ?_⟩
   simp [packA, ← hN]
  ·rw [if_neg e1] at hl
   try (simp [hlt, e1])
   repeat (refine sR ?_; simp [hlt, e1])
   refine Stop.of_d (hc _ _) ?_
   simp
   cases e2 : leafB t g.nodes[i]
   ·rw [e2] at hl
    rw [hno hl, if_neg (by simp)] at hN
    try (simp)
    repeat (refine sR ?_; simp)
    refine sC ?_
    simp
    try (simp)
    repeat (refine sR ?_; simp)
    refine sT ?_
    try simp only [AU]
    refine ⟨by simp, sF hbox htok (fun _ h => h) (Nat.le_refl _) ?_⟩
    simp [packA, ← hN]
   ·rw [e2] at hl
    try (simp)
    repeat (refine sR ?_; simp)
    refine sC ?_
    simp
    try (simp [hw])
    repeat (refine sR ?_; simp [hw])
    refine sE ?_
    exact ⟨i + 1, ⟨hlt, hyes hl⟩, by omega, Weaks.mk (Nat.le_refl _) rfl (by simp [ToL, lk, lb_at]) (by simp [BoxL, lk])⟩
 ·refine sX ?_
  simp only [AU, ↓reduceIte]
  have : i = g.nodes.length := by omega
  subst this
  rw [List.take_length] at hok
  rw [if_pos hok] at hN
  obtain ⟨p, hpp⟩ : ∃ p : E → Bool, (fun e => !lvE t g e) = p := ⟨_, rfl⟩
  have h2 := fun y (hy : y ∈ g.edges) box nb k1 k2 hk1 hk2 => leaves1_c t ht g y ⟨(hv y hy).1, (hv y hy).2.1⟩ ⟨(hv y hy).2.2.1, (hv y hy).2.2.2⟩ box nb k1 k2 tok nt hk1 hk2
  have hpy : ∀ y : E, (!lvE t g y) = p y := fun y => by rw [← hpp]
  simp only [hpy] at h2
  have hN2 : (!anyB p g.edges) = N := by
   rw [← hN, ← hpp, allP, anyB, List.any_eq_not_all_not, Bool.not_not]
   simp
  try (simp)
  repeat (refine sR ?_; simp)
  have hcap : ∀ c ∈ [AV.ptr (nb + 2) 0 0, AV.ptr (nb + 3) 0 0], OkIn (fun k => (lb nb box [(3, [[.d (ints g.nodes), .d (AM.edges g.edges)]]), (2, [[.d (nts t.nodes), .d (ets t.edges)]])]) k ≠ none) (fun _ => True) c := by
   intro c hc
   simp only [List.mem_cons, List.not_mem_nil, or_false] at hc
   rcases hc with h | h
   ·rw [h]; simp [lb_at]
   ·rw [h]; simp [lb_at]
  refine Stop.of_b (containsFuncE_c g.edges 172 [.ptr (nb + 2) 0 0, .ptr (nb + 3) 0 0] p hg.e _ _ _ _ hcap (fun y hy box' nb' he => h2 y hy box' nb' _ _ (he _ _ (by simp [lb_at])) (he _ _ (by simp [lb_at])))) ?_
  simp
  try (simp)
  repeat (refine sR ?_; simp)
  refine sT ?_
  try simp only [AU]
  refine ⟨by simp, sF hbox htok (fun _ h => h) (Nat.le_refl _) ?_⟩
  simp [packA, ← hN2]
end Go.AM
namespace Go.AM
open Go Go.Proofs
def tpA (t : Ty) (i : Nat) : Int := if (t.nd i).abs = true then 0 else if leafB t i = true then 0 else 13
def tpB (t : Ty) (r : Ru) : Int :=
 if firstE (tpA t) t.nodes.length ≠ 0 then 13 else if lvsB t r.lg = false then 13 else if lvsB t r.rg = false then 13 else 0
def tpdE (t : Ty) (r : Ru) : Int := if tyE t ≠ 0 then tyE t else if strR r ≠ 0 then strR r else tpB t r
theorem strR_valid {r : Ru} (h : strR r = 0) : validG r.lg = 0 ∧ validG r.rg = 0 := (strR_zero h).2
def stTp (t : Ty) (r : Ru) (nb : Nat) (box : Bxs) (tok : Tks) (nt : Nat) (i : Nat) : AState :=
 ⟨tl [(26, I i), (25, I t.nodes.length), (24, .d (nts t.nodes)), (3, .ptr (nb + 3) 0 0), (2, .ptr (nb + 2) 0 0)], lb nb box [(3, [r.row]), (2, [[.d (nts t.nodes), .d (ets t.edges)]])], tok, nt⟩
theorem typed_c (t : Ty) (ht : t.Fit) (r : Ru) (hr : r.Fit) (tok : Tks) (nt : Nat) : DCall Tryz.prog 53 [t.av, r.av] tok nt (I (tpdE t r)) tok nt := by
 intro box nb
 have htn := ht.n
 have h1 := valid_c4 t ht ht.hM
 have h2 := structural_c r hr
 have hv := @strR_valid r
 obtain ⟨N, hN⟩ : ∃ N, tpdE t r = N := ⟨_, rfl⟩
 rw [hN]
 unfold tpdE at hN
 generalize tyE t = E at *
 generalize tyN t = Z at *
 generalize strR r = S at *
 refine sB Tryz.func53 Tryz.ntmps53 ?_
 intro hbox htok
 simp only at hbox htok
 apply AL.start
 try (simp)
 repeat (refine sR ?_; simp)
 refine Stop.of_d (h1 _ _) ?_
 simp
 try (simp)
 repeat (refine sR ?_; simp)
 by_cases e1 : E = 0
 ·rw [if_neg (by simp [e1])] at hN
  refine sC ?_
  simp [e1]
  try (simp)
  repeat (refine sR ?_; simp)
  refine Stop.of_d (h2 _ _) ?_
  simp
  try (simp)
  repeat (refine sR ?_; simp)
  by_cases e2 : S = 0
  ·rw [if_neg (by simp [e2])] at hN
   obtain ⟨v1, v2⟩ := hv e2
   have l1 := leaves_c t ht r.lg hr.lg (validG_edges v1)
   have l2 := leaves_c t ht r.rg hr.rg (validG_edges v2)
   unfold tpB at hN
   refine sC ?_
   simp [e2]
   try (simp)
   repeat (refine sR ?_; simp)
   refine sN ?_
   refine AL.loopT (stTp t r nb box tok nt) (fun i => i ≤ t.nodes.length ∧ firstE (tpA t) i = 0) (fun i => t.nodes.length - i) 0 ⟨Nat.zero_le _, rfl⟩ (Weaks.mk (Nat.le_refl _) rfl (by simp [ToL, lk, lb_at]) (by simp [BoxL, lk])) ?_
   rintro i S' ⟨hi, hok⟩ hS
   simp only [stTp] at hS
   subst hS
   have hw := sW (i := i) (by omega)
   try (simp)
   repeat (refine sR ?_; simp)
   refine sC ?_
   simp
   refine ⟨fun hlt => ?_, fun hge => ?_⟩
   ·have hR : tpA t i ≠ 0 → firstE (tpA t) t.nodes.length = tpA t i := fun h0 => firstE_stop hok h0 _ hlt
    have hnx : tpA t i = 0 → firstE (tpA t) (i + 1) = 0 := fun h0 => by simp only [firstE, hok, h0, ↓reduceIte]
    have hd : tpA t i = if t.nodes[i].abs = true then 0 else if leafB t i = true then 0 else 13 := by rw [tpA, nd_at hlt]
    have hc := leaf_c t (by omega) i
    cases e3 : t.nodes[i].abs
    ·rw [e3, if_neg (by simp)] at hd
     try (simp [hlt, e3])
     repeat (refine sR ?_; simp [hlt, e3])
     refine Stop.of_d (hc _ _) ?_
     simp
     cases e4 : leafB t i
     ·rw [e4, if_neg (by simp)] at hd
      rw [hR (by rw [hd]; decide), if_pos (by rw [hd]; decide)] at hN
      try (simp)
      repeat (refine sR ?_; simp)
      refine sC ?_
      simp
      try (simp)
      repeat (refine sR ?_; simp)
      refine sT ?_
      try simp only [AU]
      refine ⟨by simp, sF hbox htok (fun _ h => h) (Nat.le_refl _) ?_⟩
      simp [packA, ← hN]
     ·rw [e4, if_pos rfl] at hd
      try (simp)
      repeat (refine sR ?_; simp)
      refine sC ?_
      simp
      try (simp [hw])
      repeat (refine sR ?_; simp [hw])
      refine sE ?_
      exact ⟨i + 1, ⟨hlt, hnx hd⟩, by omega, Weaks.mk (Nat.le_refl _) rfl (by simp [ToL, lk, lb_at]) (by simp [BoxL, lk])⟩
    ·rw [e3, if_pos rfl] at hd
     try (simp [hlt, e3])
     repeat (refine sR ?_; simp [hlt, e3])
     refine sC ?_
     simp [e3]
     try (simp [hw])
     repeat (refine sR ?_; simp [hw])
     refine sE ?_
     exact ⟨i + 1, ⟨hlt, hnx hd⟩, by omega, Weaks.mk (Nat.le_refl _) rfl (by simp [ToL, lk, lb_at]) (by simp [BoxL, lk])⟩
   ·refine sX ?_
    simp only [AU, ↓reduceIte]
    have : i = t.nodes.length := by omega
    subst this
    rw [if_neg (by simp [hok])] at hN
    try (simp)
    repeat (refine sR ?_; simp)
    refine Stop.of_d (l1 _ _) ?_
    simp
    cases e3 : lvsB t r.lg
    ·rw [e3, if_pos rfl] at hN
     try (simp)
     repeat (refine sR ?_; simp)
     refine sC ?_
     simp
     try (simp)
     repeat (refine sR ?_; simp)
     refine sT ?_
     try simp only [AU]
     refine ⟨by simp, sF hbox htok (fun _ h => h) (Nat.le_refl _) ?_⟩
     simp [packA, ← hN]
    ·rw [e3, if_neg (by simp)] at hN
     try (simp)
     repeat (refine sR ?_; simp)
     refine Stop.of_d (l2 _ _) ?_
     simp
     cases e4 : lvsB t r.rg
     ·rw [e4, if_pos rfl] at hN
      try (simp)
      repeat (refine sR ?_; simp)
      refine sC ?_
      simp
      try (simp)
      repeat (refine sR ?_; simp)
      refine sT ?_
      try simp only [AU]
      refine ⟨by simp, sF hbox htok (fun _ h => h) (Nat.le_refl _) ?_⟩
      simp [packA, ← hN]
     ·rw [e4, if_neg (by simp)] at hN
      try (simp)
      repeat (refine sR ?_; simp)
      refine sC ?_
      simp
      try (simp)
      repeat (refine sR ?_; simp)
      refine sT ?_
      try simp only [AU]
      refine ⟨by simp, sF hbox htok (fun _ h => h) (Nat.le_refl _) ?_⟩
      simp [packA, ← hN]
  ·rw [if_pos e2] at hN
   have b2 : (S != 0) = true := by simp [e2]
   refine sC ?_
   simp [b2]
   try (simp)
   repeat (refine sR ?_; simp)
   refine sT ?_
   try simp only [AU]
   refine ⟨by simp, sF hbox htok (fun _ h => h) (Nat.le_refl _) ?_⟩
   simp [packA, ← hN]
 ·rw [if_pos e1] at hN
  have b1 : (E != 0) = true := by simp [e1]
  refine sC ?_
  simp [b1]
  try (simp)
  repeat (refine sR ?_; simp)
  refine sT ?_
  try simp only [AU]
  refine ⟨by simp, sF hbox htok (fun _ h => h) (Nat.le_refl _) ?_⟩
  simp [packA, ← hN]
end Go.AM
namespace Go.AM
open Go
variable {P : Program}
theorem upon_exits {o : Oper} {a : Act} {next : Act → World → Prop} {Q Q' : Exit → Act → World → Prop} (h : ∀ e a w, e ≠ .normal → Q e a w → Q' e a w) (r : Result Next) (hh : o.upon P a next Q r) : o.upon P a next Q' r := by
 have hl : LetsOut Q → LetsOut Q' := fun ⟨a, w, h1⟩ => ⟨a, w, h _ _ _ (by simp) h1⟩
 cases r with
 | ok n w' =>
  cases n <;> simp only [Oper.upon] at hh ⊢ <;>
   first
    | exact hh
    | exact Calls.mono hh (fun e w'' he => by
      cases e
      ·exact he
      ·exact h _ _ _ (by simp) he
      ·exact hl he)
 | halt x w' => cases x <;> simp only [Oper.upon] at hh ⊢ <;> first | exact h _ _ _ (by simp) hh | exact hh
theorem wpOp_exits {ops : Array Oper} {i : Nat} {K : Act → World → Prop} {Q Q' : Exit → Act → World → Prop} {a : Act} {w : World} (h : ∀ e a w, e ≠ .normal → Q e a w → Q' e a w) (hh : wpOp P ops Q i K a w) : wpOp P ops Q' i K a w := by
 have hl : LetsOut Q → LetsOut Q' := fun ⟨a, w, h1⟩ => ⟨a, w, h _ _ _ (by simp) h1⟩
 unfold wpOp at *
 split
 ·rename_i ho
  simpa only [ho] using hh
 ·rename_i o ho
  simp only [ho] at hh
  split
  ·rename_i hw
   rw [if_pos hw] at hh
   exact hh.imp (upon_exits h _) fun ⟨h1, h2⟩ => ⟨h1, hl h2⟩
  ·rename_i hw
   rw [if_neg hw] at hh
   exact hh
def tiedAll (L : Array Oper) (m : Nat) : Bool := (List.range m).all fun j => (List.range (m + 1)).any fun i => decide (j < i) && (match L[i]? with | some x => (direct x).contains j | none => false)
def downOk (L : Array Oper) : Bool := (List.range L.size).all fun i => match L[i]? with | some o => (direct o).all fun j => decide (j < i) | none => true
theorem tiedAll_spec {L : Array Oper} {m : Nat} (h : tiedAll L m = true) {j : Nat} (hj : j < m) : ∃ i x, j < i ∧ i ≤ m ∧ L[i]? = some x ∧ j ∈ direct x := by
 unfold tiedAll at h
 have h1 := List.all_eq_true.1 h j (by simpa using hj)
 obtain ⟨i, hi, h2⟩ := List.any_eq_true.1 h1
 simp only [Bool.and_eq_true, decide_eq_true_eq] at h2
 obtain ⟨h2, h3⟩ := h2
 split at h3
 ·rename_i x hx
  exact ⟨i, x, h2, by simp at hi; omega, hx, by simpa using h3⟩
 ·cases h3
theorem downOk_spec {L : Array Oper} (h : downOk L = true) {i : Nat} {o : Oper} (ho : L[i]? = some o) : ∀ j ∈ direct o, j < i := by
 unfold downOk at h
 have hi := (Array.getElem?_eq_some_iff.1 ho).1
 have h1 := List.all_eq_true.1 h i (by simpa using hi)
 rw [ho] at h1
 intro j hj
 simpa using List.all_eq_true.1 h1 j hj
theorem ready_mem {L : Array Oper} {listed : Array Bool} {i : Nat} : i ∈ Region.ready .any L listed ↔ i < L.size ∧ listed.getD i true = false ∧ ∃ o, L[i]? = some o ∧ ∀ j ∈ direct o, listed.getD j false = true := by
 unfold Region.ready
 rw [List.mem_filter]
 simp only [List.mem_range, Bool.and_eq_true, Bool.not_eq_true']
 constructor
 ·rintro ⟨h1, h2, h3⟩
  refine ⟨h1, h2, L[i], by simp [h1], ?_⟩
  simp only [h1, Array.getElem?_eq_getElem, Option.map_some, Option.getD_some, Array.all_eq_true'] at h3
  intro j hj
  unfold direct at hj
  obtain ⟨e, he, rfl⟩ := List.mem_map.1 hj
  obtain ⟨he1, he2⟩ := List.mem_filter.1 he
  have := h3 e (by simpa using he1)
  simpa [he2] using this
 ·rintro ⟨h1, h2, o, h3, h4⟩
  refine ⟨h1, h2, ?_⟩
  rw [h3]
  simp only [Option.map_some, Option.getD_some, Array.all_eq_true']
  intro e he
  by_cases hb : Region.binds .any e = true
  ·have := h4 e.on (by unfold direct; exact List.mem_map.2 ⟨e, List.mem_filter.2 ⟨by simpa using he, hb⟩, rfl⟩)
   simp [this]
  ·simp [hb]
theorem getD_some {l : Array Bool} {i : Nat} {d v : Bool} (h : l[i]? = some v) : l.getD i d = v := by simp [Array.getD_eq_getD_getElem?, h]
def guardOk (ops : Array Oper) : Bool := ops.all fun o => match o.guard with | some (j, _) => decide (j < ops.size) | none => true
theorem of_getD {l : Array Bool} {i : Nat} (h : l.getD i false = true) : l[i]? = some true := by
 rw [Array.getD_eq_getD_getElem?] at h
 cases e : l[i]? with
 | none => rw [e] at h; cases h
 | some v => rw [e] at h; simp at h; rw [h]
theorem wpAny_split {ops : Array Oper} {o : Oper} {Q Qm : Exit → Act → World → Prop} (hdown : downOk (ops.push o) = true) (htied : tiedAll (ops.push o) ops.size = true) (hgo : guardOk ops = true) (hg : o.guard = none)
  (hq : ∀ e a w, e ≠ .normal → Qm e a w → Q e a w) (hn : ∀ a w, Qm .normal a w → o.wp P a w (Q .normal) Q ∨ (o.asks P a w ∧ LetsOut Q)) :
  ∀ (fuel : Nat) (listed l' : Array Bool), listed.size = ops.size + 1 → l'.size = ops.size → (∀ i, i < ops.size → l'[i]? = listed[i]?) → listed[ops.size]? = some false →
   (∀ i x, (ops.push o)[i]? = some x → listed.getD i false = true → ∀ j ∈ direct x, listed.getD j false = true) →
   ∀ a w, wpAny P .any ops Qm fuel l' a w → wpAny P .any (ops.push o) Q (fuel + 1) listed a w := by
 have hsL : (ops.push o).size = ops.size + 1 := Array.size_push _
 have hat : ∀ i, i < ops.size → (ops.push o)[i]? = ops[i]? := fun i hi => by rw [Array.getElem?_push, if_neg (by omega)]
 have hlast : (ops.push o)[ops.size]? = some o := by rw [Array.getElem?_push, if_pos rfl]
 have fin : ∀ (listed : Array Bool), listed.size = ops.size + 1 → (∀ i, i < ops.size → listed[i]? = some true) → listed[ops.size]? = some false → ∀ a w, Qm .normal a w → ∀ n, wpAny P .any (ops.push o) Q (n + 1) listed a w := by
  intro listed hsz hall hls a w hQ n
  have hm : ops.size ∈ Region.ready .any (ops.push o) listed := ready_mem.2 ⟨by omega, getD_some hls, o, hlast, fun j hj => getD_some (hall j (downOk_spec hdown hlast j hj))⟩
  refine ⟨fun h0 => absurd hm (by rw [h0]; simp), fun i hi => ?_⟩
  have him : i = ops.size := by
   obtain ⟨h1, h2, _⟩ := ready_mem.1 hi
   rcases Nat.lt_or_ge i ops.size with h | h
   ·rw [getD_some (hall i h)] at h2; cases h2
   ·omega
  subst him
  have hall2 : Region.ready .any (ops.push o) (listed.setIfInBounds ops.size true) = [] := by
   rw [List.eq_nil_iff_forall_not_mem]
   intro i hi
   obtain ⟨h1, h2, _⟩ := ready_mem.1 hi
   have : (listed.setIfInBounds ops.size true)[i]? = some true := by
    rw [Array.getElem?_setIfInBounds]
    by_cases e : ops.size = i
    ·rw [if_pos e, if_pos (by omega)]
    ·rw [if_neg e]; exact hall i (by omega)
   rw [getD_some this] at h2
   cases h2
  have hK : ∀ a w, Q .normal a w → wpAny P .any (ops.push o) Q n (listed.setIfInBounds ops.size true) a w := by
   intro a w hq
   cases n with
   | zero => exact ⟨hall2, hq⟩
   | succ n => exact ⟨fun _ => hq, fun i hi => by rw [hall2] at hi; cases hi⟩
  unfold wpOp
  rw [hlast]
  simp only
  rw [if_pos (by simp [Region.wanted, hg])]
  exact (hn a w hQ).imp (Oper.wp_mono hK) id
 intro fuel
 induction fuel with
 | zero =>
  intro listed l' hsz hsz' hll hls hcl a w h
  obtain ⟨h1, h2⟩ := h
  refine fin listed hsz ?_ hls a w h2 0
  have hC : ∀ n i, i < n → i < ops.size → listed[i]? = some true := by
   intro n
   induction n with
   | zero => intro i hi; omega
   | succ n ihn =>
    intro i hi him
    cases e : listed[i]? with
    | none => rw [Array.getElem?_eq_none_iff] at e; omega
    | some v =>
     cases v with
     | true => rfl
     | false =>
      exfalso
      have : i ∈ Region.ready .any ops l' := ready_mem.2 ⟨him, getD_some ((hll i him).trans e), ops[i], by simp [him], fun j hj => by
       have hji := downOk_spec hdown (by rw [hat i him]; simp [him]) j hj
       exact getD_some ((hll j (by omega)).trans (ihn j (by omega) (by omega)))⟩
      rw [h1] at this
      cases this
  exact fun i hi => hC (i + 1) i (Nat.lt_succ_self _) hi
 | succ k ih =>
  intro listed l' hsz hsz' hll hls hcl a w h
  obtain ⟨h1, h2⟩ := h
  have hval : ∀ i, i < ops.size → listed[i]? = some true ∨ listed[i]? = some false := fun i hi => by
   cases e : listed[i]? with
   | none => rw [Array.getElem?_eq_none_iff] at e; omega
   | some v => cases v <;> simp
  have hrd : ∀ i, i < ops.size → (i ∈ Region.ready .any (ops.push o) listed ↔ i ∈ Region.ready .any ops l') := by
   intro i hi
   have hd : ∀ x, ops[i]? = some x → ((∀ j ∈ direct x, listed.getD j false = true) ↔ ∀ j ∈ direct x, l'.getD j false = true) := fun x hx => by
    have hj := downOk_spec hdown ((hat i hi).trans hx)
    constructor
    ·exact fun h j hj' => getD_some ((hll j (by have := hj j hj'; omega)).trans (of_getD (h j hj')))
    ·exact fun h j hj' => getD_some ((hll j (by have := hj j hj'; omega)).symm.trans (of_getD (h j hj')))
   rw [ready_mem, ready_mem, hat i hi]
   have hg2 : listed.getD i true = l'.getD i true := by rw [Array.getD_eq_getD_getElem?, Array.getD_eq_getD_getElem?, hll i hi]
   constructor
   ·rintro ⟨_, g2, x, g3, g4⟩
    exact ⟨hi, hg2 ▸ g2, x, g3, (hd x g3).1 g4⟩
   ·rintro ⟨_, g2, x, g3, g4⟩
    exact ⟨by omega, hg2.symm ▸ g2, x, g3, (hd x g3).2 g4⟩
  by_cases hall : ∀ i, i < ops.size → listed[i]? = some true
  ·refine fin listed hsz hall hls a w (h1 ?_) (k + 1)
   rw [List.eq_nil_iff_forall_not_mem]
   intro i hi
   obtain ⟨g1, g2, _⟩ := ready_mem.1 hi
   rw [getD_some ((hll i g1).trans (hall i g1))] at g2
   cases g2
  ·have hnm : ops.size ∉ Region.ready .any (ops.push o) listed := by
    intro hm
    refine hall ?_
    obtain ⟨_, _, x, hx, hx2⟩ := ready_mem.1 hm
    rw [hlast] at hx
    cases hx
    have hD : ∀ n j, ops.size - j ≤ n → j < ops.size → listed[j]? = some true := by
     intro n
     induction n with
     | zero => intro j h; omega
     | succ n ihn =>
      intro j hj hjm
      obtain ⟨i, x, hji, him, hx, hjx⟩ := tiedAll_spec htied hjm
      by_cases e : i = ops.size
      ·subst e
       rw [hlast] at hx
       cases hx
       exact of_getD (hx2 j hjx)
      ·exact of_getD (hcl i x hx (getD_some (ihn i (by omega) (by omega))) j hjx)
    exact fun i hi => hD _ i (Nat.le_refl _) hi
   refine ⟨fun h0 => ?_, fun i hi => ?_⟩
   ·exfalso
    refine hall ?_
    have hC : ∀ n i, i < n → i < ops.size → listed[i]? = some true := by
     intro n
     induction n with
     | zero => intro i hi; omega
     | succ n ihn =>
      intro i hi him
      rcases hval i him with e | e
      ·exact e
      ·exfalso
       have : i ∈ Region.ready .any (ops.push o) listed := ready_mem.2 ⟨by omega, getD_some e, ops[i], by rw [hat i him]; simp [him], fun j hj => by
        have hji := downOk_spec hdown (by rw [hat i him]; simp [him]) j hj
        exact getD_some (ihn j (by omega) (by omega))⟩
       rw [h0] at this
       cases this
    exact fun i hi => hC (i + 1) i (Nat.lt_succ_self _) hi
   ·have him : i < ops.size := by
     obtain ⟨g1, _⟩ := ready_mem.1 hi
     rcases Nat.lt_or_ge i ops.size with h | h
     ·exact h
     ·exfalso
      have : i = ops.size := by omega
      subst this
      exact hnm hi
    have h3 := wpOp_exits hq (h2 i ((hrd i him).1 hi))
    obtain ⟨_, g2, x, g3, g4⟩ := ready_mem.1 hi
    have hx : ops[i]? = some x := (hat i him).symm.trans g3
    have hIH : ∀ a w, wpAny P .any ops Qm k (l'.setIfInBounds i true) a w → wpAny P .any (ops.push o) Q (k + 1) (listed.setIfInBounds i true) a w := by
     intro a w hh
     refine ih _ _ (by simpa using hsz) (by simpa using hsz') ?_ ?_ ?_ a w hh
     ·intro j hj
      rw [Array.getElem?_setIfInBounds, Array.getElem?_setIfInBounds]
      by_cases e : i = j
      ·rw [if_pos e, if_pos e, if_pos (by omega), if_pos (by omega)]
      ·rw [if_neg e, if_neg e]; exact hll j hj
     ·rw [Array.getElem?_setIfInBounds, if_neg (by omega)]; exact hls
     ·intro i2 y hy hl2 j hj
      have hset : ∀ q, (listed.setIfInBounds i true)[q]? = some true ↔ (q = i ∨ listed[q]? = some true) := by
       intro q
       rw [Array.getElem?_setIfInBounds]
       by_cases e : i = q
       ·rw [if_pos e, if_pos (by omega)]; simp [e]
       ·rw [if_neg e]
        constructor
        ·exact .inr
        ·rintro (h | h)
         ·exact absurd h.symm e
         ·exact h
      refine getD_some ((hset j).2 ?_)
      rcases (hset i2).1 (of_getD hl2) with e | e
      ·subst e
       rw [g3] at hy
       cases hy
       exact .inr (of_getD (g4 j hj))
      ·exact .inr (of_getD (hcl i2 y hy (getD_some e) j hj))
    unfold wpOp at h3 ⊢
    rw [hx] at h3
    rw [g3]
    simp only at h3 ⊢
    have hwan : Region.wanted x (yielded (ops.push o) a.tmps) = Region.wanted x (yielded ops a.tmps) := by
     unfold Region.wanted
     cases hgx : x.guard with
     | none => rfl
     | some jw =>
      obtain ⟨j, want⟩ := jw
      have hj : j < ops.size := by
       unfold guardOk at hgo
       have := Array.all_eq_true'.1 hgo x (Array.mem_of_getElem? hx)
       rw [hgx] at this
       simpa using this
      simp only [yielded, hat j hj]
    rw [hwan]
    split
    ·rename_i hw
     rw [if_pos hw] at h3
     exact h3.imp (Oper.wp_mono hIH) id
    ·rename_i hw
     rw [if_neg hw] at h3
     exact hIH _ _ h3
def splitOk (n : Nat) (ops : Array Oper) (o : Oper) : Bool := regionOk n ops true && (regionOk n #[o] false && (downOk (ops.push o) && (tiedAll (ops.push o) ops.size && (guardOk ops && o.guard.isNone))))
theorem AL.split {cx : Cx} {nt0 : Nat} {K : Exit → AState → Prop} {r : List CI} {S : AState} {id : Nat} {L ops : Array Oper} {o : Oper} (hL : L = ops.push o) (hf : P.follows .mixedOrders = true) (hnb : cx.base + cx.n ≤ cx.nb) (hok : splitOk cx.n ops o = true)
  (h : FReg P cx ops true (fun S' => FReg P cx #[o] false (AL P cx nt0 K r) S') S) : AL P cx nt0 K (.c (.region id L true) :: r) S := by
 subst hL
 unfold splitOk at hok
 simp only [Bool.and_eq_true, regionOk, Bool.or_eq_true, Bool.not_eq_true', Option.isNone_iff_eq_none] at hok
 obtain ⟨⟨⟨hal, hdst⟩, hreg⟩, ⟨⟨hal1, hdst1⟩, _⟩, hdown, htied, hgo, hgn⟩ := hok
 have hreg' : regOk ops = true := by simpa using hreg
 have h := fReg_sound h
 simp only [AL]
 intro G0 w0 he hn G a w hr hl
 have hd := dstOk_spec hdst
 obtain ⟨b, hb, hr1, hp, hkeep⟩ := preB_sound hnb ops.toList S.box (S := S) hr (fun o ho d hod => hd o d (by simpa using ho) hod) (allocOk_nodup hal) h
 have hl1 : LeC cx G0 w0 G w { S with box := b } := ⟨hl.1, fun k hk hg => by
  rw [← hl.2 k hk hg]
  refine hkeep k fun hm => ?_
  obtain ⟨o, ho, he⟩ := List.mem_filterMap.1 hm
  split at he
  ·rename_i T s h1 h2
   simp only [Option.some.injEq] at he
   subst he
   exact absurd hk (by simp)
  ·cases he⟩
 simp only at hb
 obtain ⟨S', hrun, hK⟩ := hb
 refine wp_region_any hf ?_
 have hrd : RelS cx.n cx.nb G { S with box := b } a w.drew := hr1.drew
 have hld : LeC cx G0 w0 G w.drew { S with box := b } := hl1.step ⟨Le.drew, fun k _ hg => ⟨hg, rfl⟩⟩
 rw [Array.size_push]
 refine wpAny_split (Qm := fun e a' w' => match e with
  | .normal => o.wp P a' w' (fun a w => ∃ S' G', AL P cx nt0 K r S' ∧ RelS cx.n cx.nb G' S' a w ∧ LeC cx G0 w0 G' w S') (fun e a' w' => ∃ S' G', (match e with | .normal => AL P cx nt0 K r S' | e => AU P cx nt0 K r e S') ∧ RelS cx.n cx.nb G' S' a' w' ∧ LeC cx G0 w0 G' w' S') ∨ (o.asks P a' w' ∧ LetsOut (fun e a' w' => ∃ S' G', (match e with | .normal => AL P cx nt0 K r S' | e => AU P cx nt0 K r e S') ∧ RelS cx.n cx.nb G' S' a' w' ∧ LeC cx G0 w0 G' w' S'))
  | e => False) hdown htied hgo hgn (fun e a w hne hh => by cases e <;> first | exact absurd rfl hne | exact hh.elim) (fun a w hh => ?_) ops.size _ (Array.replicate ops.size false) (by simp) (by simp) (fun i hi => by simp [Array.getElem?_replicate, hi]; omega) (by simp [Array.getElem?_replicate]) ?_ a w.drew ?_
 ·exact hh
 ·intro i x hx hl2
  have := of_getD hl2
  rw [Array.getElem?_replicate] at this
  split at this
  ·cases this
  ·cases this
 ·refine any_sound (n := cx.n) (nb := cx.nb) (base := cx.base) (Sf := S') (G0 := G) (w0 := w.drew) (b0 := b) hreg' hal hdst hnb (fun a' w' G' h1 h2 => ?_) ops.size (Array.replicate ops.size false) (List.range ops.size) { S with box := b } a w.drew G (by simp) ?_ (by simp) ?_ (IRun.of_all hrun) hrd ?_ (LeK.refl _ _ _ _)
  ·have hl2 := hld.step h2
   have hK2 := fReg_sound hK
   obtain ⟨b2, hb2, hr2, hp2, hkeep2⟩ := preB_sound hnb (#[o] : Array Oper).toList S'.box (S := S') h1 (fun o ho d hod => dstOk_spec hdst1 o d (by simpa using ho) hod) (allocOk_nodup hal1) hK2
   have hl3 : LeC cx G0 w0 G' w' { S' with box := b2 } := ⟨hl2.1, fun k hk hg => by
    rw [← hl2.2 k hk hg]
    refine hkeep2 k fun hm => ?_
    obtain ⟨o, ho, he⟩ := List.mem_filterMap.1 hm
    split at he
    ·rename_i T s h1 h2
     simp only [Option.some.injEq] at he
     subst he
     exact absurd hk (by simp)
    ·cases he⟩
   simp only at hb2
   have hfin := aops_sound (cx := cx) (ops := #[o]) (Q := fun e a' w' => ∃ S' G', (match e with | .normal => AL P cx nt0 K r S' | e => AU P cx nt0 K r e S') ∧ RelS cx.n cx.nb G' S' a' w' ∧ LeC cx G0 w0 G' w' S') (K := AL P cx nt0 K r) (G0 := G0) (w0 := w0) (fun o d ho hod => dstOk_spec hdst1 o d ho hod) hnb hal1 (fun S' a' w' G' h1 h2 h3 => ⟨S', G', h1, h2, h3⟩) (#[o] : Array Oper).toList 0 { S' with box := b2 } a' w' G' (by simp) hp2 hr2 hl3 hb2
   rw [show (#[o] : Array Oper).toList.length = 1 from rfl, show List.range' 0 1 = [0] from rfl, wpOps_cons] at hfin
   unfold wpOp at hfin
   rw [show (#[o] : Array Oper)[0]? = some o from rfl] at hfin
   simp only at hfin
   rw [if_pos (by simp [Region.wanted, hgn])] at hfin
   exact hfin
  ·rw [List.filter_eq_self.2]
   intro i hi
   simp at hi
   simp [Array.getD, hi]
  ·intro i o ho hlst
   have hi := (Array.getElem?_eq_some_iff.1 ho).1
   simp [Array.getD, hi] at hlst
  ·intro i _ o ho
   exact hp o (by simpa using Array.mem_of_getElem? ho)
theorem AL.splitL {cx : Cx} {nt0 : Nat} {K : Exit → AState → Prop} {r : List CI} {S : AState} {id : Nat} {L : List Oper} {o : Oper} (hl : L.getLast? = some o) (hL : L = L.dropLast ++ [o]) (hf : P.follows .mixedOrders = true) (hnb : cx.base + cx.n ≤ cx.nb) (hok : splitOk cx.n L.dropLast.toArray o = true)
  (h : FReg P cx L.dropLast.toArray true (fun S' => FReg P cx #[o] false (AL P cx nt0 K r) S') S) : AL P cx nt0 K (.c (.region id L.toArray true) :: r) S := by
 refine AL.split (ops := L.dropLast.toArray) (o := o) ?_ hf hnb hok h
 rw [List.push_toArray, ← hL]
end Go.AM
namespace Go.AM
open Go Go.Proofs
def addX (node kind other : Int) (out : Bool) : E := if out = true then ⟨kind, node, other⟩ else ⟨kind, other, node⟩
def addL (t : Ty) (g : Gr) (node kind : Int) (out : Bool) (other : Int) (nodes : List Int) : List Gr :=
 if fitB t kind (nodes.getD (addX node kind other out).fr.toNat 0) (nodes.getD (addX node kind other out).to.toNat 0) = true then [⟨nodes, g.edges ++ [addX node kind other out]⟩] else []
structure Ac3 where
 own : Own
 tok : Nat → Bool
 nt : Nat
def Ac3.add (x : Ac3) (b : Bool) : Ac3 := if b = true then ⟨.tok (x.nt + 2), upd (x.own.kill (upd (upd (upd x.tok x.nt true) x.nt false) (x.nt + 1) true)) (x.nt + 2) true, x.nt + 3⟩ else x
structure Ac3.Ok (x : Ac3) (tok : Tks) (nt : Nat) : Prop where
 adv : Adv tok nt .full x.tok x.nt x.own
 lt : ∀ t, tok t = true → t < nt
theorem Ac3.Ok.add {x : Ac3} {tok : Nat → Bool} {nt : Nat} (h : x.Ok tok nt) (b : Bool) : (x.add b).Ok tok nt := by
 unfold Ac3.add
 split
 ·have had := Adv.fresh h.adv.live h.adv.lt
  exact ⟨h.adv.trans h.lt (had.trans h.adv.lt (Adv.app had.live had.lt)), h.lt⟩
 ·exact h
theorem Ac3.Ok.tk {x : Ac3} {tok : Nat → Bool} {nt : Nat} (h : x.Ok tok nt) : TK tok nt x.tok x.nt [x.own] :=
 ⟨fun t ht => h.adv.keep t ht (by simp), h.lt, h.adv.le, fun o ho t e => by
  rw [List.mem_singleton] at ho
  subst ho
  have hl := h.adv.live
  rw [e] at hl
  refine ⟨hl, ?_, h.adv.lt t hl⟩
  rcases h.adv.new with e2 | ⟨s, e2, hs⟩
  ·rw [e] at e2; cases e2
  ·rw [e] at e2; cases e2; exact hs, List.pairwise_singleton _ _⟩
def addB (t : Ty) (node kind : Int) (out : Bool) (other : Int) (nodes : List Int) : Bool := fitB t kind (nodes.getD (addX node kind other out).fr.toNat 0) (nodes.getD (addX node kind other out).to.toNat 0)
abbrev Gr.cells (g : Gr) : List D := [ints g.nodes, AM.edges g.edges]
abbrev grs (l : List Gr) : D := .sl 2 (l.map Gr.cells)
theorem larger1_c (t : Ty) (ht : t.Fit) (g : Gr) (hg : g.Fit) (node kind : Int) (out : Bool) (other : Int) (nodes : List Int) (L : List Gr) (own : Own) (hn : 0 ≤ node ∧ node < nodes.length) (ho : 0 ≤ other ∧ other < nodes.length) (hL : L.length ≤ 1000000) (box : Bxs) (nb k1 k2 k3 k4 k5 k6 : Nat) (tok : Tks) (nt : Nat) (hlive : own.liveP tok) (h1 : box k1 = some [[I node]]) (h2 : box k2 = some [[I kind]]) (h3 : box k3 = some [[B out]]) (h4 : box k4 = some [[.d (nts t.nodes), .d (ets t.edges)]]) (h5 : box k5 = some [[.osl 2 (L.map Gr.cells) own]]) (h6 : box k6 = some [[.d (ints g.nodes), .d (AM.edges g.edges)]]) :
  ACalls Tryz.prog 111 [I other, .d (ints nodes), .ptr k2 0 0, .ptr k1 0 0, .ptr k3 0 0, .ptr k4 0 0, .ptr k5 0 0, .ptr k6 0 0] ⟨box, nb, tok, nt⟩ fun v m => v = .tup [] ∧ m = ⟨upd box k5 (some [[.osl 2 ((L ++ addL t g node kind out other nodes).map Gr.cells) ((Ac3.mk own tok nt).add (addB t node kind out other nodes)).own]]), nb, ((Ac3.mk own tok nt).add (addB t node kind out other nodes)).tok, ((Ac3.mk own tok nt).add (addB t node kind out other nodes)).nt⟩ := by
 have hself : box = upd box k5 (some [[.osl 2 (L.map Gr.cells) own]]) := (upd_self box k5 _ h5).symm
 obtain ⟨a, rfl⟩ := Int.eq_ofNat_of_zero_le hn.1
 obtain ⟨b, rfl⟩ := Int.eq_ofNat_of_zero_le ho.1
 have ha : a < nodes.length := by omega
 have hb : b < nodes.length := by omega
 have f1 := fits_c4 t ht kind nodes[a] nodes[b]
 have f2 := fits_c4 t ht kind nodes[b] nodes[a]
 cases out
 ·have hA : addL t g a kind false b nodes = if fitB t kind nodes[b] nodes[a] = true then [⟨nodes, g.edges ++ [⟨kind, b, a⟩]⟩] else [] := by simp [addL, addX, ha, hb]
  have hB : addB t a kind false b nodes = fitB t kind nodes[b] nodes[a] := by simp [addB, addX, ha, hb]
  rw [hA, hB]
  generalize fitB t kind nodes[b] nodes[a] = R at *
  refine sB Tryz.func111 Tryz.ntmps111 ?_
  intro hbox htok
  simp only at hbox htok
  apply AL.start
  have q1 := lb_out (key_lt hbox h1)
  have q2 := lb_out (key_lt hbox h2)
  have q3 := lb_out (key_lt hbox h3)
  have q4 := lb_out (key_lt hbox h4)
  have q5 := lb_out (key_lt hbox h5)
  have q6 := lb_out (key_lt hbox h6)
  try (simp [q1, q2, q3, q4, q5, q6, h1, h2, h3, h4, h5, h6])
  repeat (refine sR ?_; simp [q1, q2, q3, q4, q5, q6, h1, h2, h3, h4, h5, h6])
  refine sC ?_
  simp
  have hk1 := key_lt hbox h1
  refine sN ?_
  refine AL.region3 follows_Tryz (Nat.le_refl _) (by kernel_rfl) (Side.of (by simp)) [(Operand.tmp 3, Operand.tmp 19)] (by kernel_rfl) ?_
  simp [q1, q2, q3, q4, q5, q6, h1, h2, h3, h4, h5, h6, ha, hb, cls]
  refine ⟨by omega, ?_⟩
  try (simp [q1, q2, q3, q4, q5, q6, h1, h2, h3, h4, h5, h6, ha, hb])
  repeat (refine sR ?_; simp [q1, q2, q3, q4, q5, q6, h1, h2, h3, h4, h5, h6, ha, hb])
  refine Stop.of_d (f2 _ _) ?_
  simp
  cases R
  ·refine sC ?_
   simp
   refine sE ?_
   refine ⟨.inl rfl, (Fin.own (vs := []) (av := .tup []) (by simp [resAs, resA]) hbox rfl (Nat.le_refl _) (by simp [packA])).mono fun v m hq => ⟨hq.1, ?_⟩⟩
   rw [hq.2]
   simp [← hself, Ac3.add]
  ·have hk5 := key_lt hbox h5
   have hge := hg.e
   have had := Adv.fresh hlive htok
   refine sC ?_
   simp
   try (simp [q1, q2, q3, q4, q5, q6, h1, h2, h3, h4, h5, h6, ha, hb])
   repeat (refine sR ?_; simp [q1, q2, q3, q4, q5, q6, h1, h2, h3, h4, h5, h6, ha, hb])
   refine Stop.of_d (cloneE_c g.edges hg.e _ _) ?_
   simp [q5, h5, upd_lb_out hk5]
   refine ⟨⟨by omega, upd_same _ _ _⟩, ⟨by omega, had.live⟩, ?_⟩
   refine sE ?_
   refine ⟨.inl rfl, (Fin.gen (vs := []) (av := .tup []) (tok' := upd (own.kill (upd (upd (upd tok nt true) nt false) (nt + 1) true)) (nt + 2) true) (nt' := nt + 3) (by simp [resAs, resA]) ?_ (by omega) (Nat.le_refl _) (fun t h => ⟨h, .inl rfl⟩) ?_ (by simp [packA])).mono fun v m hq => ⟨hq.1, ?_⟩⟩
   ·rw [← upd_lb_out hk5, hbox]
   ·intro k' rows hk' hr
    by_cases e : k' = k5
    ·subst e
     rw [upd_same] at hr
     cases hr
     exact .inr (by simp)
    ·rw [upd_other _ _ e] at hr
     exact .inl hr
   ·rw [hq.2]
    simp [Gr.cells, rE, AM.edges, Ac3.add]
 ·have hA : addL t g a kind true b nodes = if fitB t kind nodes[a] nodes[b] = true then [⟨nodes, g.edges ++ [⟨kind, a, b⟩]⟩] else [] := by simp [addL, addX, ha, hb]
  have hB : addB t a kind true b nodes = fitB t kind nodes[a] nodes[b] := by simp [addB, addX, ha, hb]
  rw [hA, hB]
  generalize fitB t kind nodes[a] nodes[b] = R at *
  refine sB Tryz.func111 Tryz.ntmps111 ?_
  intro hbox htok
  simp only at hbox htok
  apply AL.start
  have q1 := lb_out (key_lt hbox h1)
  have q2 := lb_out (key_lt hbox h2)
  have q3 := lb_out (key_lt hbox h3)
  have q4 := lb_out (key_lt hbox h4)
  have q5 := lb_out (key_lt hbox h5)
  have q6 := lb_out (key_lt hbox h6)
  try (simp [q1, q2, q3, q4, q5, q6, h1, h2, h3, h4, h5, h6])
  repeat (refine sR ?_; simp [q1, q2, q3, q4, q5, q6, h1, h2, h3, h4, h5, h6])
  refine sC ?_
  simp
  try (simp [q1, q2, q3, q4, q5, q6, h1, h2, h3, h4, h5, h6, ha, hb])
  repeat (refine sR ?_; simp [q1, q2, q3, q4, q5, q6, h1, h2, h3, h4, h5, h6, ha, hb])
  refine Stop.of_d (f1 _ _) ?_
  simp
  cases R
  ·refine sC ?_
   simp
   refine sE ?_
   refine ⟨.inl rfl, (Fin.own (vs := []) (av := .tup []) (by simp [resAs, resA]) hbox rfl (Nat.le_refl _) (by simp [packA])).mono fun v m hq => ⟨hq.1, ?_⟩⟩
   rw [hq.2]
   simp [← hself, Ac3.add]
  ·have hk5 := key_lt hbox h5
   have hge := hg.e
   have had := Adv.fresh hlive htok
   refine sC ?_
   simp
   try (simp [q1, q2, q3, q4, q5, q6, h1, h2, h3, h4, h5, h6, ha, hb])
   repeat (refine sR ?_; simp [q1, q2, q3, q4, q5, q6, h1, h2, h3, h4, h5, h6, ha, hb])
   refine Stop.of_d (cloneE_c g.edges hg.e _ _) ?_
   simp [q5, h5, upd_lb_out hk5]
   refine ⟨⟨by omega, upd_same _ _ _⟩, ⟨by omega, had.live⟩, ?_⟩
   refine sE ?_
   refine ⟨.inl rfl, (Fin.gen (vs := []) (av := .tup []) (tok' := upd (own.kill (upd (upd (upd tok nt true) nt false) (nt + 1) true)) (nt + 2) true) (nt' := nt + 3) (by simp [resAs, resA]) ?_ (by omega) (Nat.le_refl _) (fun t h => ⟨h, .inl rfl⟩) ?_ (by simp [packA])).mono fun v m hq => ⟨hq.1, ?_⟩⟩
   ·rw [← upd_lb_out hk5, hbox]
   ·intro k' rows hk' hr
    by_cases e : k' = k5
    ·subst e
     rw [upd_same] at hr
     cases hr
     exact .inr (by simp)
    ·rw [upd_other _ _ e] at hr
     exact .inl hr
   ·rw [hq.2]
    simp [Gr.cells, rE, AM.edges, Ac3.add]
end Go.AM
namespace Go.AM
open Go Go.Proofs
def flatN {α : Type} (f : Nat → List α) : Nat → List α
 | 0 => []
 | n + 1 => flatN f n ++ f n
theorem flatN_len {α : Type} {f : Nat → List α} (h : ∀ i, (f i).length ≤ 1) : ∀ n, (flatN f n).length ≤ n
 | 0 => Nat.le_refl _
 | n + 1 => by
  have := flatN_len h n
  have := h n
  simp only [flatN, List.length_append]
  omega
theorem addL_len (t : Ty) (g : Gr) (node kind : Int) (out : Bool) (other : Int) (nodes : List Int) : (addL t g node kind out other nodes).length ≤ 1 := by
 unfold addL
 split <;> simp
def lrA (t : Ty) (g : Gr) (node kind : Int) (out : Bool) (i : Nat) : List Gr := if (out || ((i : Int) != node)) = true then addL t g node kind out i g.nodes else []
def lrB (t : Ty) (g : Gr) (node kind : Int) (out : Bool) (k : Nat) : List Gr := if leafB t k = true then addL t g node kind out g.nodes.length (g.nodes ++ [(k : Int)]) else []
theorem lrA_len (t : Ty) (g : Gr) (node kind : Int) (out : Bool) (i : Nat) : (lrA t g node kind out i).length ≤ 1 := by
 unfold lrA
 split
 ·exact addL_len _ _ _ _ _ _ _
 ·simp
theorem lrB_len (t : Ty) (g : Gr) (node kind : Int) (out : Bool) (i : Nat) : (lrB t g node kind out i).length ≤ 1 := by
 unfold lrB
 split
 ·exact addL_len _ _ _ _ _ _ _
 ·simp
def lrgL (t : Ty) (g : Gr) (node kind : Int) (out : Bool) : List Gr := flatN (lrA t g node kind out) g.nodes.length ++ flatN (lrB t g node kind out) t.nodes.length
def Ac3.cl (x : Ac3) : Ac3 := ⟨x.own, upd x.tok x.nt true, x.nt + 1⟩
def Ac3.cl2 (x : Ac3) : Ac3 := ⟨x.own, upd (upd (upd x.tok x.nt true) x.nt false) (x.nt + 1) true, x.nt + 2⟩
theorem Ac3.Ok.cl {x : Ac3} {tok : Nat → Bool} {nt : Nat} (h : x.Ok tok nt) : x.cl.Ok tok nt := by
 refine ⟨h.adv.trans h.lt ⟨fun t ht _ => ?_, Nat.le_succ _, ?_, .inl rfl, fun t ht => ?_⟩, h.lt⟩
 ·simp only [Ac3.cl, upd]; split; rfl; exact ht
 ·have := h.adv.live
  show x.own.liveP (upd x.tok x.nt true)
  cases e : x.own with
  | full => trivial
  | tok s =>
   rw [e] at this
   simp only [Own.liveP, upd] at this ⊢
   split; rfl; exact this
 ·simp only [Ac3.cl, upd] at ht ⊢
  split at ht
  ·omega
  ·have := h.adv.lt t ht; omega
theorem Ac3.Ok.cl2 {x : Ac3} {tok : Nat → Bool} {nt : Nat} (h : x.Ok tok nt) : x.cl2.Ok tok nt := ⟨h.adv.trans h.lt (Adv.fresh h.adv.live h.adv.lt), h.lt⟩
theorem Ac3.Ok.start {tok : Nat → Bool} {nt : Nat} (h : ∀ t, tok t = true → t < nt) : (Ac3.mk .full tok nt).Ok tok nt := ⟨Adv.refl trivial h, h⟩
def acA (t : Ty) (g : Gr) (node kind : Int) (out : Bool) (x : Ac3) : Nat → Ac3
 | 0 => x
 | i + 1 => if (out || ((i : Int) != node)) = true then (acA t g node kind out x i).cl.add (addB t node kind out i g.nodes) else acA t g node kind out x i
def acB (t : Ty) (g : Gr) (node kind : Int) (out : Bool) (x : Ac3) : Nat → Ac3
 | 0 => x
 | k + 1 => if leafB t k = true then (acB t g node kind out x k).cl2.add (addB t node kind out g.nodes.length (g.nodes ++ [(k : Int)])) else acB t g node kind out x k
theorem acA_ok {t : Ty} {g : Gr} {node kind : Int} {out : Bool} {x : Ac3} {tok : Nat → Bool} {nt : Nat} (h : x.Ok tok nt) : ∀ i, (acA t g node kind out x i).Ok tok nt
 | 0 => h
 | i + 1 => by
  unfold acA
  split
  ·exact ((acA_ok h i).cl).add _
  ·exact acA_ok h i
theorem acB_ok {t : Ty} {g : Gr} {node kind : Int} {out : Bool} {x : Ac3} {tok : Nat → Bool} {nt : Nat} (h : x.Ok tok nt) : ∀ i, (acB t g node kind out x i).Ok tok nt
 | 0 => h
 | i + 1 => by
  unfold acB
  split
  ·exact ((acB_ok h i).cl2).add _
  ·exact acB_ok h i
def lrgX (t : Ty) (g : Gr) (node kind : Int) (out : Bool) (x : Ac3) : Ac3 := acB t g node kind out (acA t g node kind out x g.nodes.length) t.nodes.length
abbrev lgBox (t : Ty) (g : Gr) (node kind : Int) (out : Bool) (L : List Gr) (own : Own) : List (Nat × List (List AV)) :=
 [(11, [[.osl 2 (L.map Gr.cells) own]]), (9, [[B out]]), (8, [[I kind]]), (7, [[I node]]), (6, [[.d (ints g.nodes), .d (AM.edges g.edges)]]), (5, [[.d (nts t.nodes), .d (ets t.edges)]])]
abbrev lgF (nb : Nat) : AV := .fn (.func 111) [.ptr (nb + 8) 0 0, .ptr (nb + 7) 0 0, .ptr (nb + 9) 0 0, .ptr (nb + 5) 0 0, .ptr (nb + 11) 0 0, .ptr (nb + 6) 0 0]
theorem lgF_to {t : Ty} {g : Gr} {node kind : Int} {out : Bool} {L : List Gr} {own : Own} {nb : Nat} {box : Bxs} {q : Nat → Prop} : To (fun k => ¬lb nb box (lgBox t g node kind out L own) k = none) q none (lgF nb) (lgF nb) :=
 .same (.fn (by simp [lb_at, lk]))
def stLa (t : Ty) (g : Gr) (node kind : Int) (out : Bool) (nb : Nat) (box : Bxs) (i : Nat) (L : List Gr) (x : Ac3) : AState :=
 ⟨tl [(19, I i), (18, I g.nodes.length), (17, .d (ints g.nodes)), (12, lgF nb), (11, .ptr (nb + 11) 0 0), (9, .ptr (nb + 9) 0 0), (7, .ptr (nb + 7) 0 0), (6, .ptr (nb + 6) 0 0), (5, .ptr (nb + 5) 0 0)],
  lb nb box (lgBox t g node kind out L x.own), x.tok, x.nt⟩
def stLb (t : Ty) (g : Gr) (node kind : Int) (out : Bool) (nb : Nat) (box : Bxs) (k : Nat) (L : List Gr) (x : Ac3) : AState :=
 ⟨tl [(38, I k), (37, I t.nodes.length), (12, lgF nb), (11, .ptr (nb + 11) 0 0), (6, .ptr (nb + 6) 0 0), (5, .ptr (nb + 5) 0 0)],
  lb nb box (lgBox t g node kind out L x.own), x.tok, x.nt⟩
theorem larger_c (t : Ty) (ht : t.Fit) (g : Gr) (hg : g.Fit) (hgn : g.nodes.length ≤ 1000) (node kind : Int) (out : Bool) (hn : 0 ≤ node ∧ node < g.nodes.length) (tok : Tks) (nt : Nat) :
  DCall Tryz.prog 56 [t.av, g.av, I node, I kind, B out] tok nt (.osl 2 ((lrgL t g node kind out).map Gr.cells) (lrgX t g node kind out ⟨.full, tok, nt⟩).own) (lrgX t g node kind out ⟨.full, tok, nt⟩).tok (lrgX t g node kind out ⟨.full, tok, nt⟩).nt := by
 intro box nb
 have htn := ht.n
 refine sB Tryz.func56 Tryz.ntmps56 ?_
 intro hbox htok
 simp only at hbox htok
 apply AL.start
 have hx0 := Ac3.Ok.start htok
 try (simp)
 repeat (refine sR ?_; simp)
 refine sN ?_
 refine AL.loopT (fun i => stLa t g node kind out nb box i (flatN (lrA t g node kind out) i) (acA t g node kind out ⟨.full, tok, nt⟩ i)) (fun i => i ≤ g.nodes.length) (fun i => g.nodes.length - i) 0 (Nat.zero_le _) (Weaks.mk (Nat.le_refl _) rfl (by simp [ToL, lk, lb_at, acA, lgF_to]) (by simp [BoxL, lk, acA, flatN])) ?_
 rintro i S' hi hS
 simp only [stLa] at hS
 subst hS
 have hx := acA_ok (t := t) (g := g) (node := node) (kind := kind) (out := out) hx0 i
 have hlen := flatN_len (lrA_len t g node kind out) i
 have hstL : flatN (lrA t g node kind out) (i + 1) = flatN (lrA t g node kind out) i ++ lrA t g node kind out i := rfl
 have hstX : acA t g node kind out ⟨.full, tok, nt⟩ (i + 1) = if (out || ((i : Int) != node)) = true then (acA t g node kind out ⟨.full, tok, nt⟩ i).cl.add (addB t node kind out i g.nodes) else acA t g node kind out ⟨.full, tok, nt⟩ i := rfl
 have hlA : lrA t g node kind out i = if (out || ((i : Int) != node)) = true then addL t g node kind out i g.nodes else [] := rfl
 have hw := sW (i := i) (by omega)
 try (simp)
 repeat (refine sR ?_; simp)
 refine sC ?_
 simp
 refine ⟨fun hlt => ?_, fun hge => ?_⟩
 ·generalize hX2 : acA t g node kind out ⟨.full, tok, nt⟩ (i + 1) = x2 at *
  generalize acA t g node kind out ⟨.full, tok, nt⟩ i = x at *
  generalize hL2 : flatN (lrA t g node kind out) (i + 1) = L2 at *
  generalize flatN (lrA t g node kind out) i = L at *
  generalize lrA t g node kind out i = A at *
  have hxl := hx.adv.live
  cases hc : (out || ((i : Int) != node))
  ·rw [hc, if_neg (by simp)] at hstX hlA
   simp only [Bool.or_eq_false_iff] at hc
   obtain ⟨rfl, hc2⟩ := hc
   rw [hlA, List.append_nil] at hstL
   try (simp [hc2])
   repeat (refine sR ?_; simp [hc2])
   refine sC ?_
   simp [hc2]
   try (simp [hw])
   repeat (refine sR ?_; simp [hw])
   refine sE ?_
   refine ⟨i + 1, hlt, by omega, ?_⟩
   rw [hX2, hL2, hstL, hstX]
   exact Weaks.mk (by have := hx.adv.le; omega) rfl (by simp [ToL, lk, lb_at, lgF_to]) (by simp [BoxL, lk])
  ·rw [hc, if_pos rfl] at hstX hlA
   have hl1 := fun (b : Bxs) q1 q2 q3 q4 q5 q6 => larger1_c t ht g hg node kind out i g.nodes L x.own ⟨hn.1, hn.2⟩ ⟨by omega, by omega⟩ (by omega) b (nb + 57) (nb + 7) (nb + 8) (nb + 9) (nb + 5) (nb + 11) (nb + 6) x.cl.tok x.cl.nt hx.cl.adv.live q1 q2 q3 q4 q5 q6
   have hcond : out = true ∨ out = false ∧ ((i : Int) != node) = true := by
    cases out
    ·exact .inr ⟨rfl, hc⟩
    ·exact .inl rfl
   clear hc
   rcases hcond with rfl | ⟨rfl, hc⟩
   ·try (simp)
    repeat (refine sR ?_; simp)
    refine sC ?_
    simp
    try (simp)
    repeat (refine sR ?_; simp)
    refine Stop.of_d (clone_c g.nodes hg.n _ _) ?_
    simp
    refine Stop.data ?_
    refine Stop.of_a (hl1 _ (by simp [lb_at, lk]) (by simp [lb_at, lk]) (by simp [lb_at, lk]) (by simp [lb_at, lk]) (by simp [lb_at, lk]) (by simp [lb_at, lk])) ?_
    rintro v m' ⟨rfl, rfl⟩
    simp only [FOps_nil]
    generalize hY : Ac3.add ⟨x.own, x.cl.tok, x.cl.nt⟩ (addB t node kind true i g.nodes) = y
    have hy : y.Ok tok nt := by rw [← hY]; exact hx.cl.add _
    have hxy : x2 = y := by rw [hstX, ← hY]; rfl
    try (simp [hw])
    repeat (refine sR ?_; simp [hw])
    refine sE ?_
    refine ⟨i + 1, hlt, by omega, ?_⟩
    rw [hX2, hL2, hstL, hlA, hxy]
    exact Weaks.mk (by have := hy.adv.le; omega) rfl (by simp [ToL, lk, lb_at, lgF_to]) (by simp [BoxL, lk])
   ·try (simp [hc])
    repeat (refine sR ?_; simp [hc])
    refine sC ?_
    simp [hc]
    try (simp)
    repeat (refine sR ?_; simp)
    refine Stop.of_d (clone_c g.nodes hg.n _ _) ?_
    simp
    refine Stop.data ?_
    refine Stop.of_a (hl1 _ (by simp [lb_at, lk]) (by simp [lb_at, lk]) (by simp [lb_at, lk]) (by simp [lb_at, lk]) (by simp [lb_at, lk]) (by simp [lb_at, lk])) ?_
    rintro v m' ⟨rfl, rfl⟩
    simp only [FOps_nil]
    generalize hY : Ac3.add ⟨x.own, x.cl.tok, x.cl.nt⟩ (addB t node kind false i g.nodes) = y
    have hy : y.Ok tok nt := by rw [← hY]; exact hx.cl.add _
    have hxy : x2 = y := by rw [hstX, ← hY]; rfl
    try (simp [hw])
    repeat (refine sR ?_; simp [hw])
    refine sE ?_
    refine ⟨i + 1, hlt, by omega, ?_⟩
    rw [hX2, hL2, hstL, hlA, hxy]
    exact Weaks.mk (by have := hy.adv.le; omega) rfl (by simp [ToL, lk, lb_at, lgF_to]) (by simp [BoxL, lk])
 ·refine sX ?_
  simp only [AU, ↓reduceIte]
  have : i = g.nodes.length := by omega
  subst this
  have hlrg : lrgX t g node kind out ⟨.full, tok, nt⟩ = acB t g node kind out (acA t g node kind out ⟨.full, tok, nt⟩ g.nodes.length) t.nodes.length := rfl
  have hlrl : lrgL t g node kind out = flatN (lrA t g node kind out) g.nodes.length ++ flatN (lrB t g node kind out) t.nodes.length := rfl
  rw [hlrg, hlrl]
  clear hstL hstX hlA hlrg hlrl hw
  generalize acA t g node kind out ⟨.full, tok, nt⟩ g.nodes.length = x at *
  generalize flatN (lrA t g node kind out) g.nodes.length = L at *
  try (simp)
  repeat (refine sR ?_; simp)
  refine sN ?_
  refine AL.loopT (fun k => stLb t g node kind out nb box k (L ++ flatN (lrB t g node kind out) k) (acB t g node kind out x k)) (fun k => k ≤ t.nodes.length) (fun k => t.nodes.length - k) 0 (Nat.zero_le _) (Weaks.mk (by have := hx.adv.le; omega) rfl (by simp [ToL, lk, lb_at, acB, lgF_to]) (by simp [BoxL, lk, acB, flatN])) ?_
  rintro k S' hk hS
  simp only [stLb] at hS
  subst hS
  have hxk := acB_ok (t := t) (g := g) (node := node) (kind := kind) (out := out) hx k
  have hlk := flatN_len (lrB_len t g node kind out) k
  have hstL : flatN (lrB t g node kind out) (k + 1) = flatN (lrB t g node kind out) k ++ lrB t g node kind out k := rfl
  have hstX : acB t g node kind out x (k + 1) = if leafB t k = true then (acB t g node kind out x k).cl2.add (addB t node kind out g.nodes.length (g.nodes ++ [(k : Int)])) else acB t g node kind out x k := rfl
  have hlA : lrB t g node kind out k = if leafB t k = true then addL t g node kind out g.nodes.length (g.nodes ++ [(k : Int)]) else [] := rfl
  have hw := sW (i := k) (by omega)
  try (simp)
  repeat (refine sR ?_; simp)
  refine sC ?_
  simp
  refine ⟨fun hlt => ?_, fun hge => ?_⟩
  ·generalize hX2 : acB t g node kind out x (k + 1) = x2 at *
   generalize acB t g node kind out x k = y at *
   generalize hL2 : flatN (lrB t g node kind out) (k + 1) = L2 at *
   generalize flatN (lrB t g node kind out) k = M at *
   generalize lrB t g node kind out k = A at *
   have hc := leaf_c t (by omega) k
   try (simp)
   repeat (refine sR ?_; simp)
   refine Stop.of_d (hc _ _) ?_
   simp
   cases e1 : leafB t k
   ·rw [e1, if_neg (by simp)] at hstX hlA
    try (simp)
    repeat (refine sR ?_; simp)
    refine sC ?_
    simp
    try (simp [hw])
    repeat (refine sR ?_; simp [hw])
    refine sE ?_
    refine ⟨k + 1, hlt, by omega, ?_⟩
    rw [hX2, hL2, hstL, hstX, hlA]
    exact Weaks.mk (by have := hxk.adv.le; omega) rfl (by simp [ToL, lk, lb_at, lgF_to]) (by simp [BoxL, lk])
   ·rw [e1, if_pos rfl] at hstX hlA
    have hl1 := fun (b : Bxs) q1 q2 q3 q4 q5 q6 => larger1_c t ht g hg node kind out g.nodes.length (g.nodes ++ [(k : Int)]) (L ++ M) y.own ⟨hn.1, by simp; omega⟩ ⟨by omega, by simp; omega⟩ (by simp; omega) b (nb + 57) (nb + 7) (nb + 8) (nb + 9) (nb + 5) (nb + 11) (nb + 6) y.cl2.tok y.cl2.nt hxk.cl2.adv.live q1 q2 q3 q4 q5 q6
    try (simp)
    repeat (refine sR ?_; simp)
    refine sC ?_
    simp
    refine sN ?_
    refine AL.splitL (by rfl) (by rfl) follows_Tryz (Nat.le_refl _) (by kernel_rfl) ?_
    simp
    refine Stop.of_d (clone_c g.nodes hg.n _ _) ?_
    simp
    refine ⟨⟨by omega, upd_same _ _ _⟩, ?_⟩
    rw [show rI g.nodes ++ [[D.raw (.int .i64 (k : Int))]] = rI (g.nodes ++ [(k : Int)]) by simp [rI]]
    refine Stop.data ?_
    refine Stop.of_a (hl1 _ (by simp [lb_at, lk]) (by simp [lb_at, lk]) (by simp [lb_at, lk]) (by simp [lb_at, lk]) (by simp [lb_at, lk]) (by simp [lb_at, lk])) ?_
    rintro v m' ⟨rfl, rfl⟩
    simp only [FOps_nil]
    generalize hY : Ac3.add ⟨y.own, y.cl2.tok, y.cl2.nt⟩ (addB t node kind out g.nodes.length (g.nodes ++ [(k : Int)])) = z
    have hz : z.Ok tok nt := by rw [← hY]; exact hxk.cl2.add _
    have hxz : x2 = z := by rw [hstX, ← hY]; rfl
    try (simp [hw])
    repeat (refine sR ?_; simp [hw])
    refine sE ?_
    refine ⟨k + 1, hlt, by omega, ?_⟩
    rw [hX2, hL2, hstL, hlA, hxz]
    exact Weaks.mk (by have := hz.adv.le; omega) rfl (by simp [ToL, lk, lb_at, lgF_to]) (by simp [BoxL, lk])
  ·refine sX ?_
   simp only [AU, ↓reduceIte]
   have : k = t.nodes.length := by omega
   subst this
   generalize acB t g node kind out x t.nodes.length = y at *
   try (simp)
   repeat (refine sR ?_; simp)
   refine sN ?_
   refine AL.ret ?_
   try simp only [AU]
   refine ⟨by simp, Fin.own (by simp [resAs, resA]; rfl) hbox rfl hxk.adv.le ?_⟩
   simp [packA]
end Go.AM
namespace Go.AM
open Go Go.Proofs
theorem TK.adv {mtok : Nat → Bool} {nt0 : Nat} {tok tok' : Nat → Bool} {nt nt' : Nat} {os : List Own} {own' : Own} (h : TK mtok nt0 tok nt os) (ha : Adv tok nt .full tok' nt' own') : TK mtok nt0 tok' nt' (own' :: os) := by
 have hnew : ∀ s, own' = .tok s → nt ≤ s ∧ tok' s = true := fun s e => by
  have hl := ha.live
  rw [e] at hl
  rcases ha.new with e2 | ⟨s2, e2, hs⟩
  ·rw [e] at e2; cases e2
  ·rw [e] at e2; cases e2; exact ⟨hs, hl⟩
 refine ⟨fun t ht => ha.keep t (h.old t ht) (by simp), h.lt, Nat.le_trans h.le ha.le, fun o ho t e => ?_, ?_⟩
 ·rcases List.mem_cons.1 ho with rfl | ho
  ·obtain ⟨h1, h2⟩ := hnew t e
   exact ⟨h2, Nat.le_trans h.le h1, ha.lt t h2⟩
  ·obtain ⟨h1, h2, h3⟩ := h.own o ho t e
   exact ⟨ha.keep t h1 (by simp), h2, Nat.lt_of_lt_of_le h3 ha.le⟩
 ·refine List.pairwise_cons.2 ⟨fun b hb t e e2 => ?_, h.ne⟩
  obtain ⟨h1, h2⟩ := hnew t e
  obtain ⟨_, _, h3⟩ := h.own b hb t e2
  omega
def exX (g x : Gr) : Cd := cdOf 2 [.mk 5 [cdOf 1 []] (idM g) x [] 0 []]
def appE (t : Ty) (g : Gr) (i k : Nat) : List Gr := lrgL t g i k true ++ lrgL t g i k false
def appI (t : Ty) (g : Gr) (keep : List Int) (i : Nat) : List Gr := if (i : Int) ∈ keep then [] else flatN (appE t g i) t.edges.length
def appL (t : Ty) (r : Ru) : List Gr := flatN (appI t r.lg r.k.nodes) r.lg.nodes.length
def appC (t : Ty) (r : Ru) : Cd := cdOf 3 ((appL t r).map (exX r.lg))
def badG (x : Gr) : Bool := validG x != 0
def appR (t : Ty) (r : Ru) : Cd × Int :=
 if tpdE t r ≠ 0 then (cdOf 0 [], tpdE t r) else if anyB badG (appL t r) = true then (cdOf 0 [], 3) else if (appL t r).length = 0 then (cdOf 1 [], 0)
 else if validC r.lg (appC t r) ≠ 0 then (cdOf 0 [], validC r.lg (appC t r)) else (appC t r, 0)
theorem tpdE_zero {t : Ty} {r : Ru} (h : tpdE t r = 0) : tyE t = 0 ∧ strR r = 0 ∧ tpB t r = 0 := by
 unfold tpdE at h
 split at h
 ·contradiction
 ·rename_i h1
  split at h
  ·contradiction
  ·rename_i h2
   exact ⟨Decidable.not_not.1 h1, Decidable.not_not.1 h2, h⟩
theorem mem_flatN {α : Type} {f : Nat → List α} {x : α} : ∀ {n : Nat}, x ∈ flatN f n ↔ ∃ i, i < n ∧ x ∈ f i
 | 0 => by simp [flatN]
 | n + 1 => by
  rw [flatN, List.mem_append, mem_flatN]
  constructor
  ·rintro (⟨i, hi, hx⟩ | hx)
   ·exact ⟨i, by omega, hx⟩
   ·exact ⟨n, by omega, hx⟩
  ·rintro ⟨i, hi, hx⟩
   by_cases e : i = n
   ·subst e; exact .inr hx
   ·exact .inl ⟨i, by omega, hx⟩
theorem lrgX_ok (t : Ty) (g : Gr) (node kind : Int) (out : Bool) {tok : Nat → Bool} {nt : Nat} (h : ∀ t, tok t = true → t < nt) : (lrgX t g node kind out ⟨.full, tok, nt⟩).Ok tok nt := acB_ok (acA_ok (Ac3.Ok.start h) _) _
theorem lt_app {tok : Nat → Bool} {nt : Nat} (o : Own) (h : ∀ t, tok t = true → t < nt) : ∀ t, upd (o.kill tok) nt true t = true → t < nt + 1 := by
 intro t ht
 unfold upd at ht
 split at ht
 ·omega
 ·cases o with
  | full => have := h t ht; omega
  | tok s =>
   simp only [kill_tok, upd] at ht
   split at ht
   ·cases ht
   ·have := h t ht; omega
theorem lrgL_len (t : Ty) (g : Gr) (node kind : Int) (out : Bool) : (lrgL t g node kind out).length ≤ g.nodes.length + t.nodes.length := by
 have h1 := flatN_len (lrA_len t g node kind out) g.nodes.length
 have h2 := flatN_len (lrB_len t g node kind out) t.nodes.length
 rw [lrgL, List.length_append]
 omega
theorem flatN_le {α : Type} {f : Nat → List α} {M : Nat} (h : ∀ i, (f i).length ≤ M) : ∀ n, (flatN f n).length ≤ n * M
 | 0 => by simp [flatN]
 | n + 1 => by
  have := flatN_le h n
  have := h n
  simp only [flatN, List.length_append]
  rw [Nat.add_mul, Nat.one_mul]
  omega
theorem tyE_small {t : Ty} (h : tyE t = 0) : t.nodes.length ≤ 12 ∧ t.edges.length ≤ 20 := by
 unfold tyE at h
 split at h
 ·cases h
 ·split at h
  ·cases h
  ·split at h
   ·cases h
   ·omega
theorem appE_len {t : Ty} {g : Gr} (hn : g.nodes.length ≤ 40) (ht : t.nodes.length ≤ 12) (i k : Nat) : (appE t g i k).length ≤ 104 := by
 have h1 := lrgL_len t g i k true
 have h2 := lrgL_len t g i k false
 rw [appE, List.length_append]
 omega
theorem appI_len {t : Ty} {g : Gr} (hn : g.nodes.length ≤ 40) (ht : t.nodes.length ≤ 12) (he : t.edges.length ≤ 20) (keep : List Int) (i : Nat) : (appI t g keep i).length ≤ 2080 := by
 unfold appI
 split
 ·simp
 ·have := flatN_le (f := appE t g i) (fun k => appE_len hn ht i k) t.edges.length
  have : t.edges.length * 104 ≤ 20 * 104 := Nat.mul_le_mul_right _ he
  omega
theorem mem_lrgL {t : Ty} {g : Gr} {node kind : Int} {out : Bool} {x : Gr} (h : x ∈ lrgL t g node kind out) : (∃ w, x.nodes = g.nodes ++ w ∧ w.length ≤ 1) ∧ ∃ e, x.edges = g.edges ++ [e] := by
 have ha : ∀ other nodes, x ∈ addL t g node kind out other nodes → x.nodes = nodes ∧ ∃ e, x.edges = g.edges ++ [e] := fun other nodes h => by
  unfold addL at h
  split at h
  ·rw [List.mem_singleton] at h; subst h; exact ⟨rfl, _, rfl⟩
  ·cases h
 rcases List.mem_append.1 h with h | h
 ·obtain ⟨i, _, h⟩ := mem_flatN.1 h
  unfold lrA at h
  split at h
  ·obtain ⟨h1, h2⟩ := ha _ _ h
   exact ⟨⟨[], by simpa using h1, by simp⟩, h2⟩
  ·cases h
 ·obtain ⟨i, _, h⟩ := mem_flatN.1 h
  unfold lrB at h
  split at h
  ·obtain ⟨h1, h2⟩ := ha _ _ h
   exact ⟨⟨_, h1, by simp⟩, h2⟩
  ·cases h
theorem mem_appE {t : Ty} {g : Gr} {i k : Nat} {x : Gr} (h : x ∈ appE t g i k) : (∃ w, x.nodes = g.nodes ++ w ∧ w.length ≤ 1) ∧ ∃ e, x.edges = g.edges ++ [e] := by
 rcases List.mem_append.1 h with h | h
 ·exact mem_lrgL h
 ·exact mem_lrgL h
theorem appE_fit {t : Ty} {g : Gr} (hn : g.nodes.length ≤ 40) (he : g.edges.length ≤ 80) {i k : Nat} {x : Gr} (h : x ∈ appE t g i k) : x.Fit := by
 obtain ⟨⟨w, h1, h2⟩, e, h3⟩ := mem_appE h
 refine ⟨?_, ?_⟩
 ·rw [h1, List.length_append]; omega
 ·rw [h3, List.length_append]; simp; omega
def okL (L : List Gr) : Bool := !anyB badG L
theorem okL_iff {L : List Gr} : okL L = true ↔ ∀ x ∈ L, badG x = false := by simp [okL, anyB]
theorem okL_add {L A : List Gr} {j : Nat} (hj : j < A.length) (h : okL (L ++ A.take j) = true) (h2 : badG A[j] = false) : okL (L ++ A.take (j + 1)) = true := by
 rw [okL_iff] at h ⊢
 intro x hx
 rw [List.take_succ_eq_append_getElem hj, ← List.append_assoc] at hx
 rcases List.mem_append.1 hx with hx | hx
 ·exact h x hx
 ·rw [List.mem_singleton.1 hx]; exact h2
abbrev apBox (t : Ty) (r : Ru) (K : List Cd) (own : Own) : List (Nat × List (List AV)) :=
 [(10, [[I 3, .osl 9 (K.map Cd.cells) own, nilS, nilS, nilS, nilS, nilS, z0i, nilS]]), (8, [[.d (ints (idM r.lg).nodes), .d (ints (idM r.lg).edges)]]), (7, [[.d (ints r.lg.nodes), .d (AM.edges r.lg.edges)]]), (4, [[z0i, nilS, nilS, nilS, nilS, nilS, nilS, z0i, nilS]]), (3, [r.row]), (2, [[.d (nts t.nodes), .d (ets t.edges)]])]
abbrev apS (r : Ru) (nb i : Nat) : List (Nat × AV) := [(40, I i), (39, I r.lg.nodes.length), (38, .d (ints r.lg.nodes)), (10, .ptr (nb + 10) 0 0), (8, .ptr (nb + 8) 0 0), (7, .ptr (nb + 7) 0 0), (4, .ptr (nb + 4) 0 0), (3, .ptr (nb + 3) 0 0), (2, .ptr (nb + 2) 0 0)]
structure Ix where
 i : Nat
 x : Ac3
def stA1 (t : Ty) (r : Ru) (nb : Nat) (box : Bxs) (i : Nat) (L : List Gr) (x : Ac3) : AState := ⟨tl (apS r nb i), lb nb box (apBox t r (L.map (exX r.lg)) x.own), x.tok, x.nt⟩
def stA2 (t : Ty) (r : Ru) (i : Nat) (nb : Nat) (box : Bxs) (k : Nat) (L : List Gr) (x : Ac3) : AState := ⟨tl ((51, I k) :: (50, I t.edges.length) :: (11, I i) :: apS r nb i), lb nb box (apBox t r (L.map (exX r.lg)) x.own), x.tok, x.nt⟩
def stA3 (t : Ty) (r : Ru) (i k : Nat) (A : List Gr) (nb : Nat) (box : Bxs) (j : Nat) (L : List Gr) (x : Ac3) : AState := ⟨tl ((66, I j) :: (65, I A.length) :: (64, .d (grs A)) :: (51, I k) :: (50, I t.edges.length) :: (11, I i) :: apS r nb i), lb nb box (apBox t r (L.map (exX r.lg)) x.own), x.tok, x.nt⟩
theorem exX_fit {g x : Gr} (hg : g.Fit) (hx : x.Fit) : (exX g x).Fit := by
 have h1 : (cdOf 1 []).Fit := cdOf_fit (by rw [kidN_eq]; simp) (by simp)
 refine cdOf_fit (by rw [kidN_eq]; simp) fun y hy => ?_
 rw [List.mem_singleton] at hy
 subst hy
 exact .mk (by rw [kidN_eq]; simp [Cd.kids]) ⟨by simpa [Cd.m, idM] using hg.n, by simpa [Cd.m, idM] using hg.e⟩ (by simpa [Cd.g] using hx) (by rw [bigN_eq]; simp [Cd.sl]) (by rw [bigN_eq]; simp [Cd.te]) (by simpa [Cd.kids] using h1)
theorem appC_fit {t : Ty} {r : Ru} (hn : r.lg.nodes.length ≤ 40) (he : r.lg.edges.length ≤ 80) (hl : (appL t r).length ≤ 83200) : (appC t r).Fit := by
 refine cdOf_fit (by rw [kidN_eq]; simp; omega) fun y hy => ?_
 obtain ⟨x, hx, rfl⟩ := List.mem_map.1 hy
 obtain ⟨i, _, h1⟩ := mem_flatN.1 hx
 unfold appI at h1
 split at h1
 ·cases h1
 ·obtain ⟨k, _, h2⟩ := mem_flatN.1 h1
  exact exX_fit ⟨by omega, by omega⟩ (appE_fit hn he h2)
set_option maxRecDepth 100000 in
theorem applicable_c (t : Ty) (ht : t.Fit) (r : Ru) (hr : r.Fit) (tok : Tks) (nt : Nat) : DCall Tryz.prog 19 [t.av, r.av] tok nt (.tup [(appR t r).1.av, I (appR t r).2]) tok nt := by
 intro box nb
 have htn := ht.n
 have h1 := typed_c t ht r hr
 have hz := @tpdE_zero t r
 obtain ⟨N, hN⟩ : ∃ N, appR t r = N := ⟨_, rfl⟩
 rw [hN]
 unfold appR at hN
 generalize tpdE t r = E at *
 refine sB Tryz.func19 Tryz.ntmps19 ?_
 intro hbox htok
 simp only at hbox htok
 apply AL.start
 try (simp)
 repeat (refine sR ?_; simp)
 refine Stop.of_d (h1 _ _) ?_
 simp
 try (simp)
 repeat (refine sR ?_; simp)
 by_cases e1 : E = 0
 ·rw [if_neg (by simp [e1])] at hN
  obtain ⟨z1, z2, z3⟩ := hz e1
  obtain ⟨v1, v2⟩ := strR_valid z2
  have hid := identity_c r.lg hr.lg v1
  refine sC ?_
  simp [e1]
  try (simp)
  repeat (refine sR ?_; simp)
  refine Stop.of_d (hid _ _) ?_
  simp
  try (simp)
  repeat (refine sR ?_; simp)
  refine sC ?_
  simp
  try (simp)
  repeat (refine sR ?_; simp)
  refine sN ?_
  have hsm := tyE_small z1
  have hnn : r.lg.nodes.length ≤ 40 := (validG_types v1).1.1
  have hee : r.lg.edges.length ≤ 80 := (validG_types v1).1.2
  refine AL.loopT (fun y : Ix => stA1 t r nb box y.i (flatN (appI t r.lg r.k.nodes) y.i) y.x) (fun y => y.i ≤ r.lg.nodes.length ∧ okL (flatN (appI t r.lg r.k.nodes) y.i) = true ∧ TK tok nt y.x.tok y.x.nt [y.x.own] ∧ ∀ t, y.x.tok t = true → t < y.x.nt) (fun y => r.lg.nodes.length - y.i) ⟨0, ⟨.full, tok, nt⟩⟩ ⟨Nat.zero_le _, rfl, (TK.start htok).full, htok⟩ (Weaks.mk (Nat.le_refl _) rfl (by simp [ToL, lk, lb_at]) (by simp [BoxL, lk, flatN])) ?_
  rintro ⟨i, x⟩ S' ⟨hi, hok, htk, hlt0⟩ hS
  simp only [stA1] at hS hi hok htk hlt0
  subst hS
  have hw := sW (i := i) (by omega)
  try (simp)
  repeat (refine sR ?_; simp)
  refine sC ?_
  simp
  refine ⟨fun hlt => ?_, fun hge => ?_⟩
  ·have hcn := contains_c r.k.nodes i hr.k.n
   have hst : flatN (appI t r.lg r.k.nodes) (i + 1) = flatN (appI t r.lg r.k.nodes) i ++ appI t r.lg r.k.nodes i := rfl
   have hLl : (flatN (appI t r.lg r.k.nodes) i).length ≤ 83200 := by
    have h1 := flatN_le (f := appI t r.lg r.k.nodes) (fun k => appI_len hnn hsm.1 hsm.2 _ k) i
    have h2 : i * 2080 ≤ 40 * 2080 := Nat.mul_le_mul_right _ (by omega)
    omega
   generalize hL2 : flatN (appI t r.lg r.k.nodes) (i + 1) = L2 at *
   generalize flatN (appI t r.lg r.k.nodes) i = L at *
   try (simp [hlt])
   repeat (refine sR ?_; simp [hlt])
   refine Stop.of_d (hcn _ _) ?_
   simp
   by_cases hm : (i : Int) ∈ r.k.nodes
   ·have hI : appI t r.lg r.k.nodes i = [] := if_pos hm
    rw [hI, List.append_nil] at hst
    refine sC ?_
    simp [hm]
    refine sX ?_
    simp only [AU, ↓reduceIte]
    try (simp [hw])
    repeat (refine sR ?_; simp [hw])
    refine sE ?_
    refine ⟨⟨i + 1, x⟩, ⟨hlt, ?_, htk, hlt0⟩, by simp only; omega, ?_⟩
    ·simp only [hL2, hst, hok]
    ·simp only [hL2, hst]
     exact Weaks.mk htk.le rfl (by simp [ToL, lk, lb_at]) (by simp [BoxL, lk])
   ·have hI : appI t r.lg r.k.nodes i = flatN (appE t r.lg i) t.edges.length := if_neg hm
    rw [hI] at hst
    have hbadI : ∀ k y, k < t.edges.length → y ∈ appE t r.lg i k → badG y = true → anyB badG (appL t r) = true := fun k y hk hy hb => List.any_eq_true.2 ⟨y, mem_flatN.2 ⟨i, hlt, by rw [hI]; exact mem_flatN.2 ⟨k, hk, hy⟩⟩, hb⟩
    refine sC ?_
    simp [hm]
    try (simp)
    repeat (refine sR ?_; simp)
    refine sN ?_
    refine AL.loopT (fun y : Ix => stA2 t r i nb box y.i (L ++ flatN (appE t r.lg i) y.i) y.x) (fun y => y.i ≤ t.edges.length ∧ okL (L ++ flatN (appE t r.lg i) y.i) = true ∧ TK tok nt y.x.tok y.x.nt [y.x.own] ∧ ∀ t, y.x.tok t = true → t < y.x.nt) (fun y => t.edges.length - y.i) ⟨0, x⟩ ⟨Nat.zero_le _, by simpa [flatN] using hok, htk, hlt0⟩ (Weaks.mk htk.le rfl (by simp [ToL, lk, lb_at, flatN]) (by simp [BoxL, lk, flatN])) ?_
    clear htk hlt0 hok
    rintro ⟨k, x⟩ S' ⟨hk, hok, htk, hlt0⟩ hS
    simp only [stA2] at hS hk hok htk hlt0
    subst hS
    obtain ⟨M, hM⟩ : ∃ M, L ++ flatN (appE t r.lg i) k = M := ⟨_, rfl⟩
    rw [hM] at hok ⊢
    have hMl : M.length ≤ 100000 := by
     have h1 := flatN_le (f := appE t r.lg i) (fun k => appE_len hnn hsm.1 i k) k
     have h2 : k * 104 ≤ 20 * 104 := Nat.mul_le_mul_right _ (by omega)
     rw [← hM, List.length_append]
     omega
    have hwk := sW (i := k) (by omega)
    try (simp)
    repeat (refine sR ?_; simp)
    refine sC ?_
    simp
    refine ⟨fun hltk => ?_, fun hgek => ?_⟩
    ·have c1 := larger_c t ht r.lg hr.lg (by omega) i k true ⟨by omega, by omega⟩ x.tok x.nt
     have x1 := lrgX_ok t r.lg i k true hlt0
     generalize hX1 : lrgX t r.lg i k true ⟨.full, x.tok, x.nt⟩ = y1 at *
     have c2 := larger_c t ht r.lg hr.lg (by omega) i k false ⟨by omega, by omega⟩ y1.tok y1.nt
     have x2 := lrgX_ok t r.lg i k false x1.adv.lt
     generalize hX2 : lrgX t r.lg i k false ⟨.full, y1.tok, y1.nt⟩ = y2 at *
     have hstk : L ++ flatN (appE t r.lg i) (k + 1) = M ++ appE t r.lg i k := by rw [← hM, flatN, List.append_assoc]
     have hAe : appE t r.lg i k = lrgL t r.lg i k true ++ lrgL t r.lg i k false := rfl
     have hAl := appE_len hnn hsm.1 i k
     have hbadK := fun y => hbadI k y hltk
     generalize hL3 : L ++ flatN (appE t r.lg i) (k + 1) = L3 at *
     have hAf := fun x (hx : x ∈ appE t r.lg i k) => appE_fit hnn hee hx
     generalize appE t r.lg i k = A at *
     generalize lrgL t r.lg i k true = A1 at *
     generalize lrgL t r.lg i k false = A2 at *
     have hA12 : A1.length + A2.length ≤ 104 := by rw [hAe, List.length_append] at hAl; exact hAl
     have htk1 := htk.adv x1.adv
     have htk2 := (htk1.adv x2.adv).swap
     try (simp)
     repeat (refine sR ?_; simp)
     refine Stop.of_d (c1) ?_
     simp
     refine Stop.of_d (c2) ?_
     simp
     refine ⟨⟨by omega, htk2.live⟩, ?_⟩
     have htk3 := htk2.app.tail.tail
     have hlt3 := lt_app y1.own x2.adv.lt
     generalize hT3 : upd (y1.own.kill y2.tok) y2.nt true = tok3 at *
     rw [← List.map_append, ← hAe]
     have hA3 : (A1.length : Int) + A2.length = (A.length : Nat) := by rw [hAe, List.length_append]; rfl
     simp only [hA3]
     refine sN ?_
     refine AL.loopT (fun y : Ix => stA3 t r i k A nb box y.i (M ++ A.take y.i) y.x) (fun y => y.i ≤ A.length ∧ okL (M ++ A.take y.i) = true ∧ TK tok nt y.x.tok y.x.nt [y.x.own] ∧ ∀ t, y.x.tok t = true → t < y.x.nt) (fun y => A.length - y.i) ⟨0, ⟨x.own, tok3, y2.nt + 1⟩⟩ ⟨Nat.zero_le _, by simpa using hok, htk3, hlt3⟩ (Weaks.mk htk3.le rfl (by simp [ToL, lk, lb_at, To.data]) (by simp [BoxL, lk])) ?_
     clear htk hlt0 hok htk1 htk2 htk3 hlt3 x1 x2 c1 c2
     rintro ⟨j, x⟩ S' ⟨hj, hok, htk, hlt0⟩ hS
     simp only [stA3] at hS hj hok htk hlt0
     subst hS
     obtain ⟨Q, hQ⟩ : ∃ Q, M ++ A.take j = Q := ⟨_, rfl⟩
     rw [hQ] at hok ⊢
     have hQl : Q.length ≤ 200000 := by
      rw [← hQ, List.length_append, List.length_take]
      omega
     have hwj := sW (i := j) (by omega)
     try (simp)
     repeat (refine sR ?_; simp)
     refine sC ?_
     simp
     refine ⟨fun hltj => ?_, fun hgej => ?_⟩
     ·have hmem : A[j] ∈ A := List.getElem_mem hltj
      have hgv := graphValid_c A[j] (hAf _ hmem)
      have hadd := okL_add hltj (by rw [hQ]; exact hok)
      have hbd := hbadK A[j] hmem
      have hstj : M ++ A.take (j + 1) = Q ++ [A[j]] := by rw [List.take_succ_eq_append_getElem hltj, ← List.append_assoc, hQ]
      try (simp [hltj])
      repeat (refine sR ?_; simp [hltj])
      refine Stop.of_d (hgv _ _) ?_
      simp
      try (simp)
      repeat (refine sR ?_; simp)
      by_cases e3 : validG A[j] = 0
      ·have hbf : badG A[j] = false := by simp [badG, e3]
       have hidn : (idM r.lg).nodes.length ≤ 1000000 := by simp [idM]; omega
       have hide : (idM r.lg).edges.length ≤ 1000000 := by simp [idM]; omega
       refine sC ?_
       simp [e3]
       generalize A[j] = a at *
       try (simp)
       repeat (refine sR ?_; simp)
       refine Stop.of_d (clone_c (idM r.lg).nodes hidn _ _) ?_
       simp
       refine Stop.of_d (clone_c (idM r.lg).edges hide _ _) ?_
       simp
       refine Stop.of_d (yes_c _ _) ?_
       simp
       try (simp)
       repeat (refine sR ?_; simp)
       have htk2 := (htk.full.app.full.app).tail.tail
       have hlt2 := lt_app .full (lt_app .full hlt0)
       refine ⟨⟨by omega, htk2.live⟩, ?_⟩
       try (simp [hwj])
       repeat (refine sR ?_; simp [hwj])
       refine sE ?_
       refine ⟨⟨j + 1, ⟨_, _, _⟩⟩, ⟨hltj, hadd hbf, htk2.app, lt_app _ hlt2⟩, by simp only; omega, ?_⟩
       simp only [hstj]
       refine Weaks.mk htk2.app.le rfl (by simp [ToL, lk, lb_at]) ?_
       simp [BoxL, lk]
       refine to_snoc ?_ _
       simp [exX, dsub_one, cdOf, Cd.cells_eq, Cd.kind, Cd.kids, Cd.m, Cd.g, Cd.sl, Cd.vars, Cd.te, slots, tests, conds, ints, AM.edges]
      ·have hbt : badG A[j] = true := by simp [badG, e3]
       have b3 : (validG A[j] != 0) = true := by simp [e3]
       rw [if_pos (hbd hbt)] at hN
       refine sC ?_
       simp [b3]
       try (simp)
       repeat (refine sR ?_; simp)
       refine sT ?_
       try simp only [AU]
       refine ⟨by simp, sF hbox htok htk.old htk.le ?_⟩
       simp [packA, ← hN, cdOf, Cd.kind, Cd.kids, Cd.m, Cd.g, Cd.sl, Cd.vars, Cd.te, conds, ints, AM.edges, slots, tests]
     ·refine sX ?_
      simp only [AU, ↓reduceIte]
      have hjA : j = A.length := by omega
      rw [hjA, List.take_length] at hQ
      try (simp [hwk])
      repeat (refine sR ?_; simp [hwk])
      refine sE ?_
      refine ⟨⟨k + 1, x⟩, ⟨hltk, ?_, htk, hlt0⟩, by simp only; omega, ?_⟩
      ·simp only [hL3, hstk, hQ, hok]
      ·simp only [hL3, hstk, hQ]
       exact Weaks.mk htk.le rfl (by simp [ToL, lk, lb_at]) (by simp [BoxL, lk])
    ·refine sX ?_
     simp only [AU, ↓reduceIte]
     have hkm : k = t.edges.length := by omega
     rw [hkm, ← hst] at hM
     try (simp [hw])
     repeat (refine sR ?_; simp [hw])
     refine sE ?_
     refine ⟨⟨i + 1, x⟩, ⟨hlt, ?_, htk, hlt0⟩, by simp only; omega, ?_⟩
     ·simp only [hL2, hM, hok]
     ·simp only [hL2, hM]
      exact Weaks.mk htk.le rfl (by simp [ToL, lk, lb_at]) (by simp [BoxL, lk])
  ·refine sX ?_
   simp only [AU, ↓reduceIte]
   have hin : i = r.lg.nodes.length := by omega
   have hAL : flatN (appI t r.lg r.k.nodes) i = appL t r := by rw [hin]; rfl
   have hAn : anyB badG (appL t r) = false := by
    rw [hAL] at hok
    simpa [okL] using hok
   have hALl : (appL t r).length ≤ 83200 := by
    have h1 := flatN_le (f := appI t r.lg r.k.nodes) (fun k => appI_len hnn hsm.1 hsm.2 _ k) r.lg.nodes.length
    have h2 : r.lg.nodes.length * 2080 ≤ 40 * 2080 := Nat.mul_le_mul_right _ (by omega)
    rw [appL]
    omega
   rw [hAL]
   rw [if_neg (by rw [hAn]; simp)] at hN
   clear hok
   have hlm : (List.map (exX r.lg) (appL t r)).length = (appL t r).length := List.length_map _
   have hfit : (appC t r).Fit := appC_fit (t := t) hnn hee hALl
   have hvc := validC_c r.lg (appC t r) hr.lg hfit
   have hC : appC t r = cdOf 3 ((appL t r).map (exX r.lg)) := rfl
   rw [hC] at hvc hN
   generalize hKK : (appL t r).map (exX r.lg) = KK at *
   by_cases e4 : (appL t r).length = 0
   ·have e4' : KK = [] := List.length_eq_zero_iff.1 (by rw [hlm]; exact e4)
    rw [if_pos e4] at hN
    try (simp [e4'])
    repeat (refine sR ?_; simp [e4'])
    refine sC ?_
    simp [e4']
    try (simp)
    repeat (refine sR ?_; simp)
    refine Stop.of_d (yes_c _ _) ?_
    simp
    refine sT ?_
    try simp only [AU]
    refine ⟨by simp, sF hbox htok htk.old htk.le ?_⟩
    simp [packA, ← hN, cdOf, Cd.kind, Cd.kids, Cd.m, Cd.g, Cd.sl, Cd.vars, Cd.te, conds, ints, AM.edges, slots, tests]
   ·have e4' : ¬ KK = [] := fun h => e4 (by rw [← hlm, h]; rfl)
    rw [if_neg e4] at hN
    try (simp [e4'])
    repeat (refine sR ?_; simp [e4'])
    refine sC ?_
    simp [e4']
    try (simp)
    repeat (refine sR ?_; simp)
    refine Stop.sub (args' := [r.lg.av, (cdOf 3 KK).av]) ⟨Sub.refl _, Sub.agg ⟨Sub.refl _, Sub.data _ _ _, Sub.nil _ _ _, Sub.nil _ _ _, Sub.nil _ _ _, Sub.nil _ _ _, Sub.nil _ _ _, Sub.refl _, Sub.nil _ _ _, trivial⟩, trivial⟩ ?_
    refine Stop.of_d (hvc _ _) ?_
    try (simp)
    repeat (refine sR ?_; simp)
    generalize validC r.lg (cdOf 3 KK) = V at *
    by_cases e5 : V = 0
    ·rw [if_neg (by simp [e5])] at hN
     refine sC ?_
     simp [e5]
     try (simp)
     repeat (refine sR ?_; simp)
     refine sT ?_
     try simp only [AU]
     refine ⟨by simp, sF hbox htok htk.old htk.le ?_⟩
     simp [packA, ← hN, cdOf, Cd.kind, Cd.kids, Cd.m, Cd.g, Cd.sl, Cd.vars, Cd.te, conds, ints, AM.edges, slots, tests]
    ·rw [if_pos e5] at hN
     have b5 : (V != 0) = true := by simp [e5]
     refine sC ?_
     simp [b5]
     try (simp)
     repeat (refine sR ?_; simp)
     refine sT ?_
     try simp only [AU]
     refine ⟨by simp, sF hbox htok htk.old htk.le ?_⟩
     simp [packA, ← hN, cdOf, Cd.kind, Cd.kids, Cd.m, Cd.g, Cd.sl, Cd.vars, Cd.te, conds, ints, AM.edges, slots, tests]
 ·rw [if_pos e1] at hN
  have b1 : (E != 0) = true := by simp [e1]
  refine sC ?_
  simp [b1]
  try (simp)
  repeat (refine sR ?_; simp)
  refine sT ?_
  try simp only [AU]
  refine ⟨by simp, sF hbox htok (fun _ h => h) (Nat.le_refl _) ?_⟩
  simp [packA, ← hN, cdOf, Cd.kind, Cd.kids, Cd.m, Cd.g, Cd.sl, Cd.vars, Cd.te, conds, ints, AM.edges, slots, tests]
end Go.AM
namespace Go.AM
open Go Go.Proofs
def Ac3.ed (x : Ac3) (s : Nat) : Ac3 := ⟨.tok (x.nt + 1), upd (x.own.kill (upd (upd x.tok s false) x.nt true)) (x.nt + 1) true, x.nt + 2⟩
def Ac3.nd (x : Ac3) (s : Nat) : Ac3 := ⟨x.own, upd (upd x.tok s false) x.nt true, x.nt + 1⟩
end Go.AM
namespace Go.AM
open Go Go.Proofs
theorem appE_pre {t : Ty} {g x : Gr} (hv : validG g = 0) (hx : validG x = 0) {i k : Nat} (h : x ∈ appE t g i k) : Pre g x := by
 obtain ⟨⟨w, h1, h2⟩, e, h3⟩ := mem_appE h
 exact ⟨hv, hx, ⟨w, h1⟩, ⟨[e], h3⟩⟩
theorem exX_ovr {g x : Gr} (hp : Pre g x) : (exX g x).ovr g = 0 := by
 have hE := hp.emb
 refine Cd.ovr_of rfl rfl fun y hy => ?_
 rw [show (exX g x).kids = [.mk 5 [cdOf 1 []] (idM g) x [] 0 []] from rfl, List.mem_singleton] at hy
 subst hy
 show Cd.ovr _ g = 0
 refine Cd.ovr_of rfl ?_ fun z hz => ?_
 ·show ovrStep g 5 (idM g) x = 0
  rw [ovrStep, if_pos rfl, if_neg (by simp [hE.v]), if_pos hE.inj]
 ·rw [show (Cd.mk 5 [cdOf 1 []] (idM g) x [] 0 []).kids = [cdOf 1 []] from rfl, List.mem_singleton] at hz
  subst hz
  exact Cd.ovr_of rfl rfl (by simp [cdOf, Cd.kids])
theorem appC_ovr {t : Ty} {r : Ru} (hv : validG r.lg = 0) (hb : anyB badG (appL t r) = false) (hne : (appL t r).length ≠ 0) : (appC t r).ovr r.lg = 0 := by
 have hsh : shapeC (appC t r) = 0 := by
  have h1 : 0 < (appC t r).kids.length := by
   rw [show (appC t r).kids = (appL t r).map (exX r.lg) from rfl, List.length_map]; omega
  have h2 : unusedC (appC t r) = true := rfl
  have h3 : plainC (appC t r) = true := rfl
  have h4 : (appC t r).kind = 3 := rfl
  have h5 : okC (appC t r) = true := by
   unfold okC
   rw [h4, h2]
   simp [h1]
  rw [shapeC, if_pos h5, if_pos h3]
 refine Cd.ovr_of hsh rfl fun y hy => ?_
 rw [show (appC t r).kids = (appL t r).map (exX r.lg) from rfl] at hy
 obtain ⟨x, hx, rfl⟩ := List.mem_map.1 hy
 have hb2 : badG x = false := by
  have := List.any_eq_false.1 (show (appL t r).any badG = false from hb) x hx
  simpa using this
 have hvx : validG x = 0 := by simpa [badG] using hb2
 show (exX r.lg x).ovr r.lg = 0
 obtain ⟨i, _, h1⟩ := mem_flatN.1 hx
 unfold appI at h1
 split at h1
 ·cases h1
 ·obtain ⟨k, _, h2⟩ := mem_flatN.1 h1
  exact exX_ovr (appE_pre hv hvx h2)
theorem appC_valid {t : Ty} {r : Ru} (hv : validG r.lg = 0) (hb : anyB badG (appL t r) = false) (hne : (appL t r).length ≠ 0) : validC r.lg (appC t r) = smallC (appC t r) ∧ (appC t r).shs = 0 := by
 have h := appC_ovr hv hb hne
 refine ⟨?_, ovr_shs _ _ (Nat.lt_succ_self _) _ h⟩
 rw [validC, if_neg (by simp [hv]), if_neg (by simp [h])]
end Go.AM
namespace Go.AM
open Go Go.Proofs
end Go.AM
namespace Go.AM
open Go Go.Proofs
def zr (n : Nat) : Gr := ⟨List.replicate n 0, []⟩
def dropR : Ru := ⟨eB, zr 2, [], 0, [], zr 1, [], 0, [], ⟨[0], []⟩, ⟨[0], []⟩, true, cdOf 0 []⟩
def awC : Cd := .mk 5 [cdOf 1 []] ⟨[0], []⟩ (zr 2) [] 0 []
def awT : Ty := ⟨[⟨⟨#[65]⟩, -1, false, []⟩], [⟨⟨#[101]⟩, 0, 0, 0, -1, 0, -1⟩]⟩
theorem aw_left : (leftR dropR awC).2 = 0 ∧ (leftR dropR awC).1.kind = 5 ∧ (leftR dropR awC).1.g.nodes.length = 3 := by decide +kernel
theorem aw_app : (appR awT dropR).2 = 0 ∧ (appR awT dropR).1.kind = 3 ∧ (appR awT dropR).1.kids.length = 5 := by decide +kernel
theorem to_frz0 {p q : Nat → Prop} {k n : Nat} : To p q (some (k, 1, List.replicate n [D.raw (.int .i64 0)])) (.msl k 0 n 1) (.d (ints (List.replicate n 0))) := by
 have h := To.frz (p := p) (q := q) (fz := some (k, 1, List.replicate n [D.raw (.int .i64 0)])) (k := k) (sz := 1) (es := List.replicate n [D.raw (.int .i64 0)]) rfl
 simp [ints] at h ⊢
theorem Sub.ds {sz : Nat} {es : List (List D)} {o : Own} {y : D} (h : DSub (.sl sz es) y) : Sub (.osl sz es o) (.d y) := fun G w v r => by
 cases r.asD with
 | d r1 => exact .d (r1.dsub h)
theorem nodes34_c (n : Nat) (hn : n ≤ 10) (tok : Tks) (nt : Nat) : DCall Tryz.prog 33 [I n] tok nt (zr n).av tok nt := by
 intro box nb
 refine sB Tryz.func33 Tryz.ntmps33 ?_
 intro hbox htok
 simp only at hbox htok
 apply AL.start
 try (simp)
 repeat (refine sR ?_; simp)
 refine ⟨by omega, ?_⟩
 refine AL.weak (Weaks.frz (l' := [(2, .ptr (nb + 2) 0 0)]) (loc' := [(2, [[.d (ints (List.replicate n 0)), nilS]])]) 4 1 (rI (List.replicate n 0)) (Nat.le_refl _) rfl (by simp [lk, rowsI_eq]) (by simp [lk]) (by simp) (by simp [ToL, lk, lb_at]) (by simp [BoxL, lk]; exact to_frz0)) ?_
 refine sT ?_
 try simp only [AU]
 refine ⟨by simp, sF hbox htok (fun _ h => h) (Nat.le_refl _) ?_⟩
 simp [packA, zr, AM.edges]
theorem drop34_c (tok : Tks) (nt : Nat) : DCall Tryz.prog 34 [] tok nt dropR.av tok nt := by
 intro box nb
 refine sB Tryz.func34 Tryz.ntmps34 ?_
 intro hbox htok
 simp only at hbox htok
 apply AL.start
 try (simp)
 repeat (refine sR ?_; simp)
 refine Stop.of_d (nodes34_c 2 (by omega) _ _) ?_
 simp
 refine Stop.of_d (nodes34_c 1 (by omega) _ _) ?_
 simp
 try (simp)
 repeat (refine sR ?_; simp)
 refine sT ?_
 try simp only [AU]
 refine ⟨by simp, sF hbox htok (fun _ h => h) (Nat.le_refl _) ?_⟩
 simp [packA, dropR, zr, AM.edges, ints, slots, tests, cdOf, Cd.kind, Cd.kids, Cd.m, Cd.g, Cd.sl, Cd.vars, Cd.te, conds, rI, rE]
theorem dropR_fit : dropR.Fit := ⟨⟨by simp [dropR, zr], by simp [dropR, zr]⟩, ⟨by simp [dropR, zr], by simp [dropR, zr]⟩, ⟨by simp [dropR], by simp [dropR]⟩, ⟨by simp [dropR], by simp [dropR]⟩, by rw [bigN_eq]; simp [dropR], by rw [bigN_eq]; simp [dropR], by rw [bigN_eq]; simp [dropR], by rw [bigN_eq]; simp [dropR]⟩
theorem awC_fit : awC.Fit := .mk (by rw [kidN_eq]; simp [awC, Cd.kids]) ⟨by simp [awC, Cd.m], by simp [awC, Cd.m]⟩ ⟨by simp [awC, Cd.g, zr], by simp [awC, Cd.g, zr]⟩ (by rw [bigN_eq]; simp [awC, Cd.sl]) (by rw [bigN_eq]; simp [awC, Cd.te]) fun x hx => by
 have : x = cdOf 1 [] := by simpa [awC, Cd.kids] using hx
 subst this
 exact cdOf_fit (by rw [kidN_eq]; simp) (by simp)
theorem awT_fit : awT.Fit := ⟨by decide, by decide, by decide, by decide, by simp [awT]⟩
set_option maxRecDepth 100000 in
theorem awake34_c (tok : Tks) (nt : Nat) : DCall Tryz.prog 11 [] tok nt (B true) tok nt := by
 intro box nb
 have h1 := leftP_c dropR awC dropR_fit awC_fit
 have h2 := applicable_c awT awT_fit dropR dropR_fit
 obtain ⟨s1, s2, s3⟩ := aw_left
 obtain ⟨u1, u2, u3⟩ := aw_app
 generalize leftR dropR awC = L at *
 generalize appR awT dropR = A at *
 refine sB Tryz.func11 Tryz.ntmps11 ?_
 intro hbox htok
 simp only at hbox htok
 apply AL.start
 try (simp)
 repeat (refine sR ?_; simp)
 refine Stop.of_d (nodes34_c 2 (by omega) _ _) ?_
 simp
 try (simp)
 repeat (refine sR ?_; simp)
 refine Stop.of_d (drop34_c _ _) ?_
 simp
 refine Stop.sub (args' := [dropR.av, awC.av]) ⟨Sub.refl _, Sub.agg ⟨Sub.refl _, Sub.ds (dsub_one (by simp [cdOf, Cd.cells_eq, Cd.kind, Cd.kids, Cd.m, Cd.g, Cd.sl, Cd.vars, Cd.te, slots, tests, conds, ints, AM.edges])), Sub.data _ _ _, Sub.nil _ _ _, Sub.refl _, Sub.refl _, Sub.nil _ _ _, Sub.refl _, Sub.nil _ _ _, trivial⟩, trivial⟩ ?_
 refine Stop.of_d (h1 _ _) ?_
 simp
 try (simp)
 repeat (refine sR ?_; simp)
 refine Stop.of_d (drop34_c _ _) ?_
 simp
 refine Stop.sub (args' := [awT.av, dropR.av]) ⟨Sub.agg ⟨Sub.ds (dsub_one (by simp [atts])), Sub.ds (dsub_one (by simp)), trivial⟩, Sub.refl _, trivial⟩ ?_
 refine Stop.of_d (h2 _ _) ?_
 simp
 try (simp [s1, s2, s3, u1, u2, u3])
 repeat (refine sR ?_; simp [s1, s2, s3, u1, u2, u3])
 refine sT ?_
 try simp only [AU]
 refine ⟨by simp, sF hbox htok (fun _ h => h) (Nat.le_refl _) ?_⟩
 simp [packA]
end Go.AM
