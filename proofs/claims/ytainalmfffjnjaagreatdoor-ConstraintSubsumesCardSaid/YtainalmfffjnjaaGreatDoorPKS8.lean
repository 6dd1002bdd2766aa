/-
 Parts of the proof, as merged from many texts: a machine over data, what the functions compute, plain laws.
-/
import Derived.Test.YtainalmfffjnjaaGreatDoorPKS7
set_option linter.unusedSimpArgs false
set_option linter.unusedVariables false
namespace Go.AM
open Go Go.Proofs
theorem Ty.Fit.hM {t : Ty} (h : t.Fit) (i : Nat) : (t.nd i).own.length ≤ 1000 := by
 by_cases hi : i < t.nodes.length
 ·rw [nd_at hi]; exact (h.a _ (List.getElem_mem hi)).1
 ·simp [Ty.nd, List.getElem?_eq_none (Nat.le_of_not_lt hi)]
  exact Nat.zero_le _
theorem given1_c (t : Ty) (n : Int) (box : Bxs) (nb k : Nat) (tok : Tks) (nt : Nat) (h1 : box k = some [[.d (nts t.nodes), .d (ets t.edges)]]) :
  ACalls Tryz.prog 235 [I n, .ptr k 0 0] ⟨box, nb, tok, nt⟩ fun v m => v = B (!insB t n) ∧ m = ⟨box, nb, tok, nt⟩ := by
 by_cases h0 : n < 0
 ·rw [show insB t n = false by simp only [insB, decide_eq_false_iff_not]; omega]
  refine sB Tryz.func235 Tryz.ntmps235 ?_
  intro hbox htok
  simp only at hbox htok
  apply AL.start
  have k1n := key_lt hbox h1
  try (simp [lb_out k1n, h1, h0])
  repeat (refine sR ?_; simp [lb_out k1n, h1, h0])
  refine sT ?_
  try simp only [AU]
  refine ⟨by simp, sF hbox htok (fun _ h => h) (Nat.le_refl _) ?_⟩
  simp [packA]
 ·by_cases h2 : (t.nodes.length : Int) ≤ n
  ·rw [show insB t n = false by simp only [insB, decide_eq_false_iff_not]; omega]
   refine sB Tryz.func235 Tryz.ntmps235 ?_
   intro hbox htok
   simp only at hbox htok
   apply AL.start
   have k1n := key_lt hbox h1
   try (simp [lb_out k1n, h1, h0, h2])
   repeat (refine sR ?_; simp [lb_out k1n, h1, h0, h2])
   refine sT ?_
   try simp only [AU]
   refine ⟨by simp, sF hbox htok (fun _ h => h) (Nat.le_refl _) ?_⟩
   simp [packA]
  ·rw [show insB t n = true by simp only [insB, decide_eq_true_eq]; omega]
   refine sB Tryz.func235 Tryz.ntmps235 ?_
   intro hbox htok
   simp only at hbox htok
   apply AL.start
   have k1n := key_lt hbox h1
   try (simp [lb_out k1n, h1, h0, h2])
   repeat (refine sR ?_; simp [lb_out k1n, h1, h0, h2])
   refine sT ?_
   try simp only [AU]
   refine ⟨by simp, sF hbox htok (fun _ h => h) (Nat.le_refl _) ?_⟩
   simp [packA]
def givE (t : Ty) (l : List Int) : Int := if tyE t = 0 then (if anyB (fun a => !insB t a) l = true then 6 else 0) else tyE t
theorem given_c (t : Ty) (ht : t.Fit) (l : List Int) (hl : l.length ≤ 1000000) (tok : Tks) (nt : Nat) : DCall Tryz.prog 171 [t.av, .d (ints l)] tok nt (I (givE t l)) tok nt := by
 intro box nb
 have h1 := valid_c4 t ht ht.hM
 obtain ⟨N, hN⟩ : ∃ N, givE t l = N := ⟨_, rfl⟩
 rw [hN]
 unfold givE at hN
 generalize tyE t = E at *
 generalize tyN t = Z at *
 refine sB Tryz.func171 Tryz.ntmps171 ?_
 intro hbox htok
 simp only at hbox htok
 apply AL.start
 try (simp)
 repeat (refine sR ?_; simp)
 refine Stop.of_d (h1 _ _) ?_
 simp
 try (simp)
 repeat (refine sR ?_; simp)
 by_cases e1 : E = 0
 ·rw [if_pos e1] at hN
  obtain ⟨p, hpp⟩ : ∃ p : Int → Bool, (fun a => !insB t a) = p := ⟨_, rfl⟩
  have h2 := fun y box nb k hbk => given1_c t y box nb k tok nt hbk
  have hpy : ∀ y : Int, (!insB t y) = p y := fun y => by rw [← hpp]
  simp only [hpy] at h2
  rw [hpp] at hN
  refine sC ?_
  simp [e1]
  try (simp)
  repeat (refine sR ?_; simp)
  refine Stop.of_b (containsFunc_c l 235 [.ptr (nb + 2) 0 0] p hl _ _ _ _ (fun c hc => by rw [List.mem_singleton.1 hc]; simp [lb_at]) (fun y hy box' nb' he => h2 y box' nb' _ (he _ _ (by simp [lb_at])))) ?_
  simp
  cases e2 : anyB p l
  ·rw [e2, if_neg (by simp)] at hN
   try (simp)
   repeat (refine sR ?_; simp)
   refine sC ?_
   simp
   try (simp)
   repeat (refine sR ?_; simp)
   refine sT ?_
   try simp only [AU]
   refine ⟨by simp, sF hbox htok (fun _ h => h) (Nat.le_refl _) ?_⟩
   simp [packA, ← hN]
  ·rw [e2, if_pos rfl] at hN
   try (simp)
   repeat (refine sR ?_; simp)
   refine sC ?_
   simp
   try (simp)
   repeat (refine sR ?_; simp)
   refine sT ?_
   try simp only [AU]
   refine ⟨by simp, sF hbox htok (fun _ h => h) (Nat.le_refl _) ?_⟩
   simp [packA, ← hN]
 ·rw [if_neg e1] at hN
  have b1 : (E != 0) = true := by simp [e1]
  refine sC ?_
  simp [b1]
  try (simp)
  repeat (refine sR ?_; simp)
  refine sT ?_
  try simp only [AU]
  refine ⟨by simp, sF hbox htok (fun _ h => h) (Nat.le_refl _) ?_⟩
  simp [packA, ← hN]
def isB (t : Ty) (a b : Int) : Bool := decide (b ∈ upI t.pars a)
theorem is_c (t : Ty) (ht : t.Fit) (a b : Int) (h0 : 0 ≤ a) (ha : a < t.nodes.length) (hp : ∀ j, j < t.nodes.length → (t.nd j).par < j) (tok : Tks) (nt : Nat) : DCall Tryz.prog 172 [t.av, I a, I b] tok nt (B (isB t a b)) tok nt := by
 intro box nb
 have hc := line_c t (by have := ht.n; omega) a h0 ha hp
 have hlen := upI_len t.pars a
 have htn := ht.n
 obtain ⟨N, hN⟩ : ∃ N, isB t a b = N := ⟨_, rfl⟩
 rw [hN]
 unfold isB at hN
 have hN2 : decide (b ∈ (upI t.pars a).reverse) = N := by rw [← hN]; simp
 have hl2 : (upI t.pars a).reverse.length ≤ 1000000 := by rw [List.length_reverse]; omega
 generalize (upI t.pars a).reverse = L at *
 have hk := contains_c L b hl2
 rw [hN2] at hk
 refine sB Tryz.func172 Tryz.ntmps172 ?_
 intro hbox htok
 simp only at hbox htok
 apply AL.start
 try (simp)
 repeat (refine sR ?_; simp)
 refine Stop.of_d (hc _ _) ?_
 simp
 try (simp)
 repeat (refine sR ?_; simp)
 refine Stop.of_d (hk _ _) ?_
 simp
 try (simp)
 repeat (refine sR ?_; simp)
 refine sT ?_
 try simp only [AU]
 refine ⟨by simp, sF hbox htok (fun _ h => h) (Nat.le_refl _) ?_⟩
 simp [packA]
theorem tyE_par {t : Ty} (h : tyE t = 0) : ∀ j, j < t.nodes.length → (t.nd j).par < j := by
 unfold tyE at h
 split at h
 ·cases h
 ·split at h
  ·cases h
  ·split at h
   ·cases h
   ·split at h
    ·rename_i h1
     exact absurd h h1
    ·rename_i h1
     exact fun j hj => nodE_par (firstE_allZ _ (Decidable.not_not.1 h1) j hj)
def fitB (t : Ty) (e a b : Int) : Bool :=
 if givE t [a, b] = 0 then (if 0 ≤ e then (if e < t.edges.length then (if isB t a (t.ed e.toNat).fr = true then isB t b (t.ed e.toNat).to else false) else false) else false) else false
theorem givE_in {t : Ty} {l : List Int} (h : givE t l = 0) : tyE t = 0 ∧ ∀ a ∈ l, 0 ≤ a ∧ a < t.nodes.length := by
 unfold givE at h
 split at h
 ·rename_i h1
  split at h
  ·cases h
  ·rename_i h2
   refine ⟨h1, fun a ha => ?_⟩
   simp only [anyB, List.any_eq_true, not_exists, not_and] at h2
   have := h2 a ha
   simpa [insB] using this
 ·rename_i h1
  exact absurd h h1
theorem fits_c4 (t : Ty) (ht : t.Fit) (e a b : Int) (tok : Tks) (nt : Nat) : DCall Tryz.prog 137 [t.av, I e, I a, I b] tok nt (B (fitB t e a b)) tok nt := by
 intro box nb
 have h1 := given_c t ht [a, b] (by simp)
 have hin := @givE_in t [a, b]
 obtain ⟨N, hN⟩ : ∃ N, fitB t e a b = N := ⟨_, rfl⟩
 rw [hN]
 unfold fitB at hN
 generalize givE t [a, b] = E at *
 refine sB Tryz.func137 Tryz.ntmps137 ?_
 intro hbox htok
 simp only at hbox htok
 apply AL.start
 try (simp)
 repeat (refine sR ?_; simp)
 refine ⟨rfl, ?_⟩
 refine Stop.data ?_
 refine Stop.of_d (h1 _ _) ?_
 simp
 by_cases e1 : E = 0
 ·obtain ⟨htE, hin⟩ := hin e1
  have ha := hin a (by simp)
  have hb := hin b (by simp)
  rw [if_pos e1] at hN
  by_cases e2 : 0 ≤ e
  ·have e2' : ¬ e < 0 := by omega
   rw [if_pos e2] at hN
   by_cases e3 : e < t.edges.length
   ·have e3' : ¬ (t.edges.length : Int) ≤ e := by omega
    rw [if_pos e3] at hN
    obtain ⟨k, rfl⟩ := Int.eq_ofNat_of_zero_le e2
    have hk : k < t.edges.length := by omega
    rw [Int.toNat_natCast, ed_at hk] at hN
    have c1 := is_c t ht a t.edges[k].fr ha.1 ha.2 (tyE_par htE)
    have c2 := is_c t ht b t.edges[k].to hb.1 hb.2 (tyE_par htE)
    try (simp [e1, e2', e3', hk])
    repeat (refine sR ?_; simp [e1, e2', e3', hk])
    refine sC ?_
    simp [e1, e2', e3', hk]
    try (simp [hk])
    repeat (refine sR ?_; simp [hk])
    refine Stop.of_d (c1 _ _) ?_
    simp
    cases f1 : isB t a t.edges[k].fr
    ·rw [f1, if_neg (by simp)] at hN
     try (simp)
     repeat (refine sR ?_; simp)
     refine sT ?_
     try simp only [AU]
     refine ⟨by simp, sF hbox htok (fun _ h => h) (Nat.le_refl _) ?_⟩
     simp [packA, ← hN]
    ·rw [f1, if_pos rfl] at hN
     try (simp [hk])
     repeat (refine sR ?_; simp [hk])
     refine Stop.of_d (c2 _ _) ?_
     simp
     try (simp)
     repeat (refine sR ?_; simp)
     refine sT ?_
     try simp only [AU]
     refine ⟨by simp, sF hbox htok (fun _ h => h) (Nat.le_refl _) ?_⟩
     simp [packA, ← hN]
   ·have e3' : (t.edges.length : Int) ≤ e := by omega
    rw [if_neg e3] at hN
    try (simp [e1, e2', e3'])
    repeat (refine sR ?_; simp [e1, e2', e3'])
    refine sC ?_
    simp [e1, e2', e3']
    try (simp)
    repeat (refine sR ?_; simp)
    refine sT ?_
    try simp only [AU]
    refine ⟨by simp, sF hbox htok (fun _ h => h) (Nat.le_refl _) ?_⟩
    simp [packA, ← hN]
  ·have e2' : e < 0 := by omega
   rw [if_neg e2] at hN
   try (simp [e1, e2'])
   repeat (refine sR ?_; simp [e1, e2'])
   refine sC ?_
   simp [e1, e2']
   try (simp)
   repeat (refine sR ?_; simp)
   refine sT ?_
   try simp only [AU]
   refine ⟨by simp, sF hbox htok (fun _ h => h) (Nat.le_refl _) ?_⟩
   simp [packA, ← hN]
 ·rw [if_neg e1] at hN
  have b1 : (E != 0) = true := by simp [e1]
  try (simp [b1])
  repeat (refine sR ?_; simp [b1])
  refine sC ?_
  simp [b1]
  try (simp)
  repeat (refine sR ?_; simp)
  refine sT ?_
  try simp only [AU]
  refine ⟨by simp, sF hbox htok (fun _ h => h) (Nat.le_refl _) ?_⟩
  simp [packA, ← hN]
end Go.AM
namespace Go.AM
open Go Go.Proofs
structure Sr where
 t : Ty
 p : Gr
 g : Gr
 pt : Mo
 inj : Bool
 most : Nat
abbrev Sr.row (s : Sr) (out : List Mo) (own : Own) : List AV := [.d (nts s.t.nodes), .d (ets s.t.edges), .d (ints s.p.nodes), .d (AM.edges s.p.edges), .d (ints s.g.nodes), .d (AM.edges s.g.edges), .d (ints s.pt.nodes), .d (ints s.pt.edges), B s.inj, I s.most, .osl 2 (out.map fun m => [ints m.nodes, ints m.edges]) own]
structure Sr.Ok (s : Sr) : Prop where
 t : s.t.Fit
 tp : ∀ j, j < s.t.nodes.length → (s.t.nd j).par < j
 p : s.p.Fit
 g : s.g.Fit
 m : s.most ≤ 1000000
 vp : ∀ e ∈ s.p.edges, 0 ≤ e.fr ∧ e.fr < s.p.nodes.length ∧ 0 ≤ e.to ∧ e.to < s.p.nodes.length
 pn : s.pt.nodes.length = s.p.nodes.length
 pe : s.pt.edges.length = s.p.edges.length
 np : ∀ n ∈ s.p.nodes, 0 ≤ n ∧ n < s.t.nodes.length
 ng : ∀ n ∈ s.g.nodes, 0 ≤ n ∧ n < s.t.nodes.length
def gvB (l : List Int) (i k : Nat) : Bool := if 0 ≤ l.getD i 0 then decide (l.getD i 0 = (k : Int)) else true
def usB (inj : Bool) (L : List Int) (k : Nat) : Bool := if inj = true then decide ((k : Int) ∈ L) else false
def Sr.okE (s : Sr) (N E : List Int) (k : Nat) : Bool :=
 if gvB s.pt.edges E.length k = true then (if usB s.inj E k = true then false else decide (s.g.edges.getD k default = wantX s.p N E.length)) else false
def Sr.okN (s : Sr) (N : List Int) (k : Nat) : Bool :=
 if gvB s.pt.nodes N.length k = true then (if usB s.inj N k = true then false else isB s.t (s.g.nodes.getD k 0) (s.p.nodes.getD N.length 0)) else false
end Go.AM
namespace Go.AM
open Go Go.Proofs
end Go.AM
namespace Go.AM
open Go Go.Proofs
def Sr.eqE (s : Sr) (N : List Int) (i k : Nat) : Bool := decide (s.g.edges.getD k default = wantX s.p N i)
def Sr.anE (s : Sr) (N : List Int) (i k : Nat) : Bool := (List.range k).any (s.eqE N i)
def Sr.fitE (s : Sr) (N : List Int) (i : Nat) : Bool :=
 if (N.length : Int) ≤ (s.p.edges.getD i default).fr then true else if (N.length : Int) ≤ (s.p.edges.getD i default).to then true else s.anE N i s.g.edges.length
def Sr.fit (s : Sr) (N : List Int) : Bool := (List.range s.p.edges.length).all (s.fitE N)
theorem Sr.fit_true {s : Sr} {N : List Int} (h : ∀ i, i < s.p.edges.length → s.fitE N i = true) : s.fit N = true := by
 unfold Sr.fit
 rw [List.all_eq_true]
 exact fun i hi => h i (List.mem_range.1 hi)
end Go.AM
namespace Go.AM
open Go Go.Proofs
def Sr.fnR (s : Sr) : Nat → List Int → List Mo → List Mo
 | 0, N, out => if out.length = s.most + 1 then out else if s.fit N = true then fndE (s.most + 1) (s.okE N) s.g.edges.length N s.p.edges.length [] out else out
 | r + 1, N, out => if out.length = s.most + 1 then out else if s.fit N = true then (List.range s.g.nodes.length).foldl (fun out k => if s.okN N k = true then s.fnR r (N ++ [(k : Int)]) out else out) out else out
abbrev Sr.fnN (s : Sr) : Nat → List Int → List Mo → List Mo := fndN (s.most + 1) s.okN (fun N k => s.fit (N ++ [(k : Int)])) s.g.nodes.length s.okE s.g.edges.length s.p.edges.length
theorem Sr.fnR_eq (s : Sr) : ∀ (r : Nat) (N : List Int) (out : List Mo), s.fnR r N out = if s.fit N = true then s.fnN r N out else out
 | 0, N, out => by
  unfold Sr.fnR Sr.fnN fndN
  by_cases h : out.length = s.most + 1
  ·rw [if_pos h]
   cases s.p.edges.length <;> simp [fndE, h]
  ·rw [if_neg h]
 | r + 1, N, out => by
  unfold Sr.fnR Sr.fnN fndN
  by_cases h : out.length = s.most + 1
  ·rw [if_pos h, if_pos h]; simp
  ·rw [if_neg h, if_neg h]
   have e : (fun (out : List Mo) (k : Nat) => if s.okN N k = true then s.fnR r (N ++ [(k : Int)]) out else out) = fun out k => if s.okN N k = true then (if s.fit (N ++ [(k : Int)]) = true then s.fnN r (N ++ [(k : Int)]) out else out) else out := by
    funext out k
    rw [Sr.fnR_eq s r]
   rw [e]
end Go.AM
namespace Go.AM
open Go
variable {P : Program}
theorem upon_exits {o : Oper} {a : Act} {next : Act → World → Prop} {Q Q' : Exit → Act → World → Prop} (h : ∀ e a w, e ≠ .normal → Q e a w → Q' e a w) (r : Result Next) (hh : o.upon P a next Q r) : o.upon P a next Q' r := by
 have hl : LetsOut Q → LetsOut Q' := fun ⟨a, w, h1⟩ => ⟨a, w, h _ _ _ (by simp) h1⟩
 cases r with
 | ok n w' =>
  cases n <;> simp only [Oper.upon] at hh ⊢ <;>
   first
    | exact hh
    | exact Calls.mono hh (fun e w'' he => by
      cases e
      ·exact he
      ·exact h _ _ _ (by simp) he
      ·exact hl he)
 | halt x w' => cases x <;> simp only [Oper.upon] at hh ⊢ <;> first | exact h _ _ _ (by simp) hh | exact hh
theorem wpOp_exits {ops : Array Oper} {i : Nat} {K : Act → World → Prop} {Q Q' : Exit → Act → World → Prop} {a : Act} {w : World} (h : ∀ e a w, e ≠ .normal → Q e a w → Q' e a w) (hh : wpOp P ops Q i K a w) : wpOp P ops Q' i K a w := by
 have hl : LetsOut Q → LetsOut Q' := fun ⟨a, w, h1⟩ => ⟨a, w, h _ _ _ (by simp) h1⟩
 unfold wpOp at *
 split
 ·rename_i ho
  simpa only [ho] using hh
 ·rename_i o ho
  simp only [ho] at hh
  split
  ·rename_i hw
   rw [if_pos hw] at hh
   exact hh.imp (upon_exits h _) fun ⟨h1, h2⟩ => ⟨h1, hl h2⟩
  ·rename_i hw
   rw [if_neg hw] at hh
   exact hh
def tiedAll (L : Array Oper) (m : Nat) : Bool := (List.range m).all fun j => (List.range (m + 1)).any fun i => decide (j < i) && (match L[i]? with | some x => (direct x).contains j | none => false)
def downOk (L : Array Oper) : Bool := (List.range L.size).all fun i => match L[i]? with | some o => (direct o).all fun j => decide (j < i) | none => true
theorem tiedAll_spec {L : Array Oper} {m : Nat} (h : tiedAll L m = true) {j : Nat} (hj : j < m) : ∃ i x, j < i ∧ i ≤ m ∧ L[i]? = some x ∧ j ∈ direct x := by
 unfold tiedAll at h
 have h1 := List.all_eq_true.1 h j (by simpa using hj)
 obtain ⟨i, hi, h2⟩ := List.any_eq_true.1 h1
 simp only [Bool.and_eq_true, decide_eq_true_eq] at h2
 obtain ⟨h2, h3⟩ := h2
 split at h3
 ·rename_i x hx
  exact ⟨i, x, h2, by simp at hi; omega, hx, by simpa using h3⟩
 ·cases h3
theorem downOk_spec {L : Array Oper} (h : downOk L = true) {i : Nat} {o : Oper} (ho : L[i]? = some o) : ∀ j ∈ direct o, j < i := by
 unfold downOk at h
 have hi := (Array.getElem?_eq_some_iff.1 ho).1
 have h1 := List.all_eq_true.1 h i (by simpa using hi)
 rw [ho] at h1
 intro j hj
 simpa using List.all_eq_true.1 h1 j hj
theorem ready_mem {L : Array Oper} {listed : Array Bool} {i : Nat} : i ∈ Region.ready .any L listed ↔ i < L.size ∧ listed.getD i true = false ∧ ∃ o, L[i]? = some o ∧ ∀ j ∈ direct o, listed.getD j false = true := by
 unfold Region.ready
 rw [List.mem_filter]
 simp only [List.mem_range, Bool.and_eq_true, Bool.not_eq_true']
 constructor
 ·rintro ⟨h1, h2, h3⟩
  refine ⟨h1, h2, L[i], by simp [h1], ?_⟩
  simp only [h1, Array.getElem?_eq_getElem, Option.map_some, Option.getD_some, Array.all_eq_true'] at h3
  intro j hj
  unfold direct at hj
  obtain ⟨e, he, rfl⟩ := List.mem_map.1 hj
  obtain ⟨he1, he2⟩ := List.mem_filter.1 he
  have := h3 e (by simpa using he1)
  simpa [he2] using this
 ·rintro ⟨h1, h2, o, h3, h4⟩
  refine ⟨h1, h2, ?_⟩
  rw [h3]
  simp only [Option.map_some, Option.getD_some, Array.all_eq_true']
  intro e he
  by_cases hb : Region.binds .any e = true
  ·have := h4 e.on (by unfold direct; exact List.mem_map.2 ⟨e, List.mem_filter.2 ⟨by simpa using he, hb⟩, rfl⟩)
   simp [this]
  ·simp [hb]
theorem getD_some {l : Array Bool} {i : Nat} {d v : Bool} (h : l[i]? = some v) : l.getD i d = v := by simp [Array.getD_eq_getD_getElem?, h]
def guardOk (ops : Array Oper) : Bool := ops.all fun o => match o.guard with | some (j, _) => decide (j < ops.size) | none => true
theorem of_getD {l : Array Bool} {i : Nat} (h : l.getD i false = true) : l[i]? = some true := by
 rw [Array.getD_eq_getD_getElem?] at h
 cases e : l[i]? with
 | none => rw [e] at h; cases h
 | some v => rw [e] at h; simp at h; rw [h]
end Go.AM
namespace Go.AM
open Go
variable {P : Program} {wr : Bool}
end Go.AM
namespace Go.AM
open Go Go.Proofs
def typN (t : Ty) (n : Int) : Bool := decide (0 ≤ n ∧ n < t.nodes.length)
def typX (t : Ty) (e : E) : Bool := decide (0 ≤ e.ty ∧ e.ty < t.edges.length)
def typG (t : Ty) (g : Gr) : Bool := g.nodes.all (typN t) && g.edges.all (typX t)
def opM (p : Gr) : Mo := ⟨List.replicate p.nodes.length (-1), List.replicate p.edges.length (-1)⟩
abbrev mosR (l : List Mo) : List (List D) := l.map fun m => [ints m.nodes, ints m.edges]
end Go.AM
namespace Go.AM
open Go Go.Proofs
def givS (t : Ty) (p g : Gr) : Int := if tyE t ≠ 0 then tyE t else if validG p ≠ 0 then validG p else if validG g ≠ 0 then validG g else if typG t p = false then 13 else if typG t g = false then 13 else 0
def allSr (t : Ty) (p g : Gr) (inj : Bool) : Sr := ⟨t, p, g, opM p, inj, 5000⟩
def allL (t : Ty) (p g : Gr) (inj : Bool) : List Mo := (allSr t p g inj).fnR p.nodes.length [] []
def allS (t : Ty) (p g : Gr) (inj : Bool) : List Mo × Int := if givS t p g ≠ 0 then ([], givS t p g) else if 5000 < (allL t p g inj).length then ([], 3) else (allL t p g inj, 0)
theorem typG_nodes {t : Ty} {g : Gr} (h : typG t g = true) : ∀ n ∈ g.nodes, 0 ≤ n ∧ n < t.nodes.length := by
 unfold typG at h
 rw [Bool.and_eq_true] at h
 intro n hn
 have := List.all_eq_true.1 h.1 n hn
 simpa [typN] using this
theorem givS_zero {t : Ty} {p g : Gr} (h : givS t p g = 0) : tyE t = 0 ∧ validG p = 0 ∧ validG g = 0 ∧ typG t p = true ∧ typG t g = true := by
 unfold givS at h
 split at h
 ·contradiction
 ·split at h
  ·contradiction
  ·split at h
   ·contradiction
   ·split at h
    ·simp at h
    ·split at h
     ·simp at h
     ·rename_i a b c d e
      exact ⟨by simpa using a, by simpa using b, by simpa using c, by simpa using d, by simpa using e⟩
theorem allSr_ok {t : Ty} {p g : Gr} {inj : Bool} (ht : t.Fit) (hp : p.Fit) (hg : g.Fit) (h : givS t p g = 0) : (allSr t p g inj).Ok := by
 obtain ⟨h1, h2, h3, h4, h5⟩ := givS_zero h
 exact ⟨ht, tyE_par h1, hp, hg, by simp [allSr], validG_edges h2, by simp [allSr, opM], by simp [allSr, opM], typG_nodes h4, typG_nodes h5⟩
end Go.AM
namespace Go.AM
open Go
theorem wantX_app {p : Gr} {N M : List Int} {i : Nat} (h1 : (p.edges.getD i default).fr.toNat < N.length) (h2 : (p.edges.getD i default).to.toNat < N.length) : wantX p (N ++ M) i = wantX p N i := by
 unfold wantX
 generalize p.edges.getD i default = e at *
 rw [List.getD_eq_getElem?_getD, List.getD_eq_getElem?_getD, List.getD_eq_getElem?_getD, List.getD_eq_getElem?_getD, List.getElem?_append_left h1, List.getElem?_append_left h2]
theorem Sr.fit_dead {s : Sr} (h : s.Ok) {N : List Int} (hf : s.fit N = false) (r : Nat) : allF s.okN s.g.nodes.length s.okE s.g.edges.length s.p.edges.length r N = [] := by
 rw [List.eq_nil_iff_forall_not_mem]
 intro m hm
 unfold allF at hm
 obtain ⟨N', hN', hm⟩ := List.mem_flatMap.1 hm
 obtain ⟨es, hes, rfl⟩ := List.mem_map.1 hm
 obtain ⟨T, t1, t2, rfl, t4⟩ := enumL_mem.1 hN'
 obtain ⟨U, u1, u2, rfl, u4⟩ := enumL_mem.1 hes
 unfold Sr.fit at hf
 obtain ⟨i, hi, hfi⟩ := List.all_eq_false.1 hf
 have hi := List.mem_range.1 hi
 have hfi : s.fitE N i = false := by simpa using hfi
 unfold Sr.fitE at hfi
 have hgd : s.p.edges.getD i default = s.p.edges[i] := by simp [hi]
 obtain ⟨x1, x2, x3, x4⟩ := h.vp _ (List.getElem_mem hi)
 split at hfi
 ·cases hfi
 ·split at hfi
  ·cases hfi
  ·rename_i a b
   rw [hgd] at a b
   have hiU : i < U.length := by omega
   have hu := u4 i hiU
   have hk := u2 _ (List.getElem_mem hiU)
   unfold Sr.anE at hfi
   have hno := List.any_eq_false.1 hfi U[i] (List.mem_range.2 hk)
   unfold Sr.eqE at hno
   unfold Sr.okE at hu
   split at hu
   ·split at hu
    ·cases hu
    ·have hl : (([] : List Int) ++ (U.take i).map (fun (k : Nat) => (k : Int))).length = i := by simp; omega
     rw [hl, wantX_app (by rw [hgd]; omega) (by rw [hgd]; omega)] at hu
     exact hno hu
   ·cases hu
theorem Sr.fit_nil {s : Sr} (h : s.Ok) : s.fit [] = true := by
 refine Sr.fit_true fun i hi => ?_
 have hgd : s.p.edges.getD i default = s.p.edges[i] := by simp [hi]
 obtain ⟨x1, x2, x3, x4⟩ := h.vp _ (List.getElem_mem hi)
 unfold Sr.fitE
 rw [if_pos (by rw [hgd]; simpa using x1)]
theorem Sr.fnR_all {s : Sr} (h : s.Ok) : s.fnR s.p.nodes.length [] [] = (allF s.okN s.g.nodes.length s.okE s.g.edges.length s.p.edges.length s.p.nodes.length []).take (s.most + 1) := by
 rw [Sr.fnR_eq, if_pos (Sr.fit_nil h)]
 have := fndN_eq (s.most + 1) s.okN (fun N k => s.fit (N ++ [(k : Int)])) s.g.nodes.length s.okE s.g.edges.length s.p.edges.length (fun _ => True) (fun _ _ _ _ _ => trivial) (fun r N k _ _ hp => Sr.fit_dead h hp r) s.p.nodes.length [] [] trivial (by simp)
 simpa using this
end Go.AM
namespace Go.AM
open Go
end Go.AM
namespace Go.AM
open Go
def Sr.fitK (s : Sr) (N : List Int) (i k : Nat) : Bool := if gvB s.pt.edges i k = true then decide (s.g.edges.getD k default = wantX s.p N i) else false
def Sr.posE (s : Sr) (N : List Int) (i : Nat) : Bool :=
 if max (s.p.edges.getD i default).fr (s.p.edges.getD i default).to = (N.length : Int) - 1 then (List.range s.g.edges.length).any (s.fitK N i) else true
def Sr.pos (s : Sr) (N : List Int) : Bool := (List.range s.p.edges.length).all (s.posE N)
theorem Sr.pos_false {s : Sr} {N : List Int} {i : Nat} (hi : i < s.p.edges.length) (h : s.posE N i = false) : s.pos N = false := by
 unfold Sr.pos
 rw [List.all_eq_false]
 exact ⟨i, List.mem_range.2 hi, by simp [h]⟩
theorem Sr.pos_true {s : Sr} {N : List Int} (h : ∀ i, i < s.p.edges.length → s.posE N i = true) : s.pos N = true := by
 unfold Sr.pos
 rw [List.all_eq_true]
 exact fun i hi => h i (List.mem_range.1 hi)
theorem Sr.okE_eq (s : Sr) (N E : List Int) (k : Nat) : s.okE N E k = (s.fitK N E.length k && !usB s.inj E k) := by
 unfold Sr.okE Sr.fitK
 cases gvB s.pt.edges E.length k <;> cases usB s.inj E k <;> simp
theorem Sr.pos_dead {s : Sr} (h : s.Ok) {N : List Int} (hf : s.pos N = false) (r : Nat) : allF s.okN s.g.nodes.length s.okE s.g.edges.length s.p.edges.length r N = [] := by
 rw [List.eq_nil_iff_forall_not_mem]
 intro m hm
 unfold allF at hm
 obtain ⟨N', hN', hm⟩ := List.mem_flatMap.1 hm
 obtain ⟨es, hes, rfl⟩ := List.mem_map.1 hm
 obtain ⟨T, t1, t2, rfl, t4⟩ := enumL_mem.1 hN'
 obtain ⟨U, u1, u2, rfl, u4⟩ := enumL_mem.1 hes
 unfold Sr.pos at hf
 obtain ⟨i, hi, hfi⟩ := List.all_eq_false.1 hf
 have hi := List.mem_range.1 hi
 have hfi : s.posE N i = false := by simpa using hfi
 unfold Sr.posE at hfi
 have hgd : s.p.edges.getD i default = s.p.edges[i] := by simp [hi]
 obtain ⟨x1, x2, x3, x4⟩ := h.vp _ (List.getElem_mem hi)
 split at hfi
 ·rename_i hmx
  rw [hgd] at hmx
  have hiU : i < U.length := by omega
  have hu := u4 i hiU
  have hk := u2 _ (List.getElem_mem hiU)
  have hno := List.any_eq_false.1 hfi U[i] (List.mem_range.2 hk)
  have hl : (([] : List Int) ++ (U.take i).map (fun (k : Nat) => (k : Int))).length = i := by simp; omega
  rw [Sr.okE_eq, hl] at hu
  have hu := (Bool.and_eq_true_iff.1 hu).1
  unfold Sr.fitK at hu hno
  rw [wantX_app (by rw [hgd]; omega) (by rw [hgd]; omega)] at hu
  exact hno hu
 ·cases hfi
abbrev Sr.fnP (s : Sr) (fm : Nat) : Nat → List Int → List Mo → List Mo := fndN fm s.okN (fun N k => s.pos (N ++ [(k : Int)])) s.g.nodes.length s.okE s.g.edges.length s.p.edges.length
theorem Sr.fnP_eq {s : Sr} (h : s.Ok) (fm r : Nat) (N : List Int) (out : List Mo) (ho : out.length ≤ fm) : s.fnP fm r N out = (out ++ allF s.okN s.g.nodes.length s.okE s.g.edges.length s.p.edges.length r N).take fm :=
 fndN_eq fm s.okN (fun N k => s.pos (N ++ [(k : Int)])) s.g.nodes.length s.okE s.g.edges.length s.p.edges.length (fun _ => True) (fun _ _ _ _ _ => trivial) (fun r N k _ _ hp => Sr.pos_dead h hp r) r N out trivial ho
theorem Sr.fnP_len {s : Sr} (h : s.Ok) {fm r : Nat} {N : List Int} {out : List Mo} (ho : out.length ≤ fm) : (s.fnP fm r N out).length ≤ fm := by
 rw [Sr.fnP_eq h _ _ _ _ ho]; simp; omega
theorem Sr.fnP_fnR {s : Sr} (h : s.Ok) : s.fnP (s.most + 1) s.p.nodes.length [] [] = s.fnR s.p.nodes.length [] [] := by
 rw [Sr.fnR_all h, Sr.fnP_eq h _ _ _ _ (by simp)]
 simp
end Go.AM
namespace Go.AM
open Go Go.Proofs
end Go.AM
namespace Go.AM
open Go Go.Proofs
def leafB (t : Ty) (k : Int) : Bool := !anyB (fun n => n.par == k) t.nodes
def allP {α : Type} (p : α → Bool) (l : List α) : Bool := l.all p
theorem all_no {α : Type} {p : α → Bool} {l : List α} {i : Nat} (h : i < l.length) (hp : p l[i] = false) : allP p l = false := by
 unfold allP
 rw [← Bool.not_eq_true, List.all_eq_true]
 intro h2
 have := h2 _ (List.getElem_mem h)
 rw [hp] at this
 cases this
theorem all_more {α : Type} {p : α → Bool} {l : List α} {i : Nat} (h : i < l.length) (h1 : allP p (l.take i) = true) (hp : p l[i] = true) : allP p (l.take (i + 1)) = true := by
 unfold allP at *
 rw [List.take_succ_eq_append_getElem h, List.all_append, h1]
 simp [hp]
def lvN (t : Ty) (n : Int) : Bool := if (t.nodes.length : Int) ≤ n then false else leafB t n
def lvE (t : Ty) (g : Gr) (e : E) : Bool := fitB t e.ty (g.nodes.getD e.fr.toNat 0) (g.nodes.getD e.to.toNat 0)
def lvsB (t : Ty) (g : Gr) : Bool := if allP (lvN t) g.nodes = true then allP (lvE t g) g.edges else false
end Go.AM
namespace Go.AM
open Go Go.Proofs
end Go.AM
namespace Go.AM
open Go Go.Proofs
def belK (t : Ty) (a : Int) (i : Nat) : List Int := ((List.range i).filter fun (b : Nat) => isB t (b : Int) a).map fun (b : Nat) => (b : Int)
theorem belK_zero (t : Ty) (a : Int) : belK t a 0 = [] := rfl
theorem belK_succ (t : Ty) (a : Int) (i : Nat) : belK t a (i + 1) = if isB t i a = true then belK t a i ++ [(i : Int)] else belK t a i := by
 unfold belK
 rw [List.range_succ, List.filter_append, List.map_append]
 by_cases h : isB t i a = true <;> simp [h]
theorem belK_len (t : Ty) (a : Int) (i : Nat) : (belK t a i).length ≤ i := by
 unfold belK
 rw [List.length_map]
 exact Nat.le_trans (List.length_filter_le _ _) (by simp)
end Go.AM
namespace Go.AM
open Go Go.Proofs
structure Xt where
 m : Mo
 g : Gr
structure Co where
 name : ByteArray
 kind : Int
 g : Gr
 exts : List Xt
abbrev Xt.cells (x : Xt) : List D := [ints x.m.nodes, ints x.m.edges, ints x.g.nodes, AM.edges x.g.edges]
abbrev xts (l : List Xt) : D := .sl 4 (l.map Xt.cells)
abbrev Xt.av (x : Xt) : AV := .agg [.d (ints x.m.nodes), .d (ints x.m.edges), .d (ints x.g.nodes), .d (AM.edges x.g.edges)]
abbrev Co.row (c : Co) : List AV := [Sb c.name, I c.kind, .d (ints c.g.nodes), .d (AM.edges c.g.edges), .d (xts c.exts)]
abbrev Co.av (c : Co) : AV := .agg c.row
structure Xt.Fit (x : Xt) : Prop where
 m : x.m.Fit
 g : x.g.Fit
structure Co.Fit (c : Co) : Prop where
 name : c.name.size ≤ 200000000000000
 g : c.g.Fit
 n : c.exts.length ≤ 1000000
 exts : ∀ x ∈ c.exts, x.Fit
def lrgB (g : Gr) : Bool := if 6 < g.nodes.length then true else decide (8 < g.edges.length)
def xtE (p : Gr) (x : Xt) : Int := if validM p x.g x.m ≠ 0 then validM p x.g x.m else if lrgB x.g = true then 3 else if injM p x.g x.m = true then 0 else 1
def xtAt (c : Co) (i : Nat) : Int := match c.exts[i]? with | some x => xtE c.g x | none => 0
theorem xtAt_at {c : Co} {i : Nat} (h : i < c.exts.length) : xtAt c i = xtE c.g c.exts[i] := by simp [xtAt, h]
def kdE (c : Co) : Int :=
 if c.kind = 1 then if c.exts = [] then 0 else 1 else if c.kind = 2 then if c.exts = [] then 7 else if 6 < c.exts.length then 3 else 0 else 1
def shpE (c : Co) : Int :=
 if nameB c.name = false then 2 else if kdE c ≠ 0 then kdE c else if validG c.g ≠ 0 then validG c.g else if lrgB c.g = true then 3 else firstE (xtAt c) c.exts.length
def lvX (t : Ty) (c : Co) : Bool := if lvsB t c.g = true then allP (fun x : Xt => lvsB t x.g) c.exts else false
def cnE (t : Ty) (c : Co) : Int := if tyE t ≠ 0 then tyE t else if shpE c ≠ 0 then shpE c else if lvX t c = true then 0 else 13
theorem shpE_zero {c : Co} (h : shpE c = 0) : nameB c.name = true ∧ kdE c = 0 ∧ validG c.g = 0 ∧ lrgB c.g = false ∧ ∀ x ∈ c.exts, validM c.g x.g x.m = 0 ∧ lrgB x.g = false ∧ injM c.g x.g x.m = true := by
 unfold shpE at h
 split at h
 ·cases h
 rename_i h1
 split at h
 ·rename_i h2; exact absurd h h2
 rename_i h2
 split at h
 ·rename_i h3; exact absurd h h3
 rename_i h3
 split at h
 ·cases h
 rename_i h4
 refine ⟨by simpa using h1, by simpa using h2, by simpa using h3, by simpa using h4, fun x hx => ?_⟩
 obtain ⟨i, hi, rfl⟩ := List.getElem_of_mem hx
 have h5 := firstE_allZ _ h i hi
 rw [xtAt_at hi] at h5
 unfold xtE at h5
 split at h5
 ·rename_i h6; exact absurd h5 h6
 rename_i h6
 split at h5
 ·cases h5
 rename_i h7
 split at h5
 ·rename_i h8; exact ⟨by simpa using h6, by simpa using h7, h8⟩
 ·cases h5
end Go.AM
namespace Go.AM
open Go Go.Proofs
theorem leafK1_c (x : NT) (y : Int) (box : Bxs) (nb k : Nat) (tok : Tks) (nt : Nat) (h1 : box k = some [[I y]]) :
  ACalls Tryz.prog 170 [x.av, .ptr k 0 0] ⟨box, nb, tok, nt⟩ fun v m => v = B (x.par == y) ∧ m = ⟨box, nb, tok, nt⟩ := by
 refine sB Tryz.func170 Tryz.ntmps170 ?_
 intro hbox htok
 simp only at hbox htok
 apply AL.start
 have k1n := key_lt hbox h1
 try (simp [lb_out k1n, h1])
 repeat (refine sR ?_; simp [lb_out k1n, h1])
 refine sT ?_
 try simp only [AU]
 refine ⟨by simp, sF hbox htok (fun _ h => h) (Nat.le_refl _) ?_⟩
 simp [packA]
theorem leafK_c (t : Ty) (ht : t.nodes.length ≤ 1000000) (k : Int) (tok : Tks) (nt : Nat) : DCall Tryz.prog 101 [t.av, I k] tok nt (B (leafB t k)) tok nt := by
 intro box nb
 obtain ⟨p, hpp⟩ : ∃ p : NT → Bool, (fun n => n.par == k) = p := ⟨_, rfl⟩
 have h2 := fun y box nb q hbk => leafK1_c y k box nb q tok nt hbk
 have hpy : ∀ y : NT, (y.par == k) = p y := fun y => by rw [← hpp]
 simp only [hpy] at h2
 unfold leafB
 rw [hpp]
 refine sB Tryz.func101 Tryz.ntmps101 ?_
 intro hbox htok
 simp only at hbox htok
 apply AL.start
 try (simp)
 repeat (refine sR ?_; simp)
 refine Stop.of_b (containsFuncN_c t.nodes 170 [.ptr (nb + 3) 0 0] p ht _ _ _ _ (fun c hc => by rw [List.mem_singleton.1 hc]; simp [lb_at]) (fun y hy box' nb' he => h2 y box' nb' _ (he _ _ (by simp [lb_at])))) ?_
 simp
 try (simp)
 repeat (refine sR ?_; simp)
 refine sT ?_
 try simp only [AU]
 refine ⟨by simp, sF hbox htok (fun _ h => h) (Nat.le_refl _) ?_⟩
 simp [packA]
theorem leavesK1_c (t : Ty) (ht : t.Fit) (g : Gr) (e : E) (h0 : 0 ≤ e.fr ∧ e.fr < g.nodes.length) (h2 : 0 ≤ e.to ∧ e.to < g.nodes.length) (box : Bxs) (nb k1 k2 : Nat) (tok : Tks) (nt : Nat) (h1 : box k1 = some [[.d (nts t.nodes), .d (ets t.edges)]]) (h3 : box k2 = some [[.d (ints g.nodes), .d (AM.edges g.edges)]]) :
  ACalls Tryz.prog 136 [.agg [I e.ty, I e.fr, I e.to], .ptr k1 0 0, .ptr k2 0 0] ⟨box, nb, tok, nt⟩ fun v m => v = B (!lvE t g e) ∧ m = ⟨box, nb, tok, nt⟩ := by
 obtain ⟨ty, fr, to'⟩ := e
 simp only at h0 h2
 obtain ⟨a, rfl⟩ := Int.eq_ofNat_of_zero_le h0.1
 obtain ⟨b, rfl⟩ := Int.eq_ofNat_of_zero_le h2.1
 have ha : a < g.nodes.length := by omega
 have hb : b < g.nodes.length := by omega
 have hc := fits_c4 t ht ty g.nodes[a] g.nodes[b]
 have hL : lvE t g ⟨ty, a, b⟩ = fitB t ty g.nodes[a] g.nodes[b] := by simp [lvE, ha, hb]
 rw [hL]
 generalize fitB t ty g.nodes[a] g.nodes[b] = R at *
 refine sB Tryz.func136 Tryz.ntmps136 ?_
 intro hbox htok
 simp only at hbox htok
 apply AL.start
 have k1n := key_lt hbox h1
 have k2n := key_lt hbox h3
 try (simp [lb_out k1n, lb_out k2n, h1, h3, ha, hb])
 repeat (refine sR ?_; simp [lb_out k1n, lb_out k2n, h1, h3, ha, hb])
 refine Stop.of_d (hc _ _) ?_
 simp
 try (simp)
 repeat (refine sR ?_; simp)
 refine sT ?_
 try simp only [AU]
 refine ⟨by simp, sF hbox htok (fun _ h => h) (Nat.le_refl _) ?_⟩
 simp [packA]
def stKv (t : Ty) (g : Gr) (nb : Nat) (box : Bxs) (tok : Tks) (nt : Nat) (i : Nat) : AState :=
 ⟨tl [(10, I i), (9, I g.nodes.length), (8, .d (ints g.nodes)), (3, .ptr (nb + 3) 0 0), (2, .ptr (nb + 2) 0 0)], lb nb box [(3, [[.d (ints g.nodes), .d (AM.edges g.edges)]]), (2, [[.d (nts t.nodes), .d (ets t.edges)]])], tok, nt⟩
theorem leavesK_c (t : Ty) (ht : t.Fit) (g : Gr) (hg : g.Fit) (hv : ∀ e ∈ g.edges, 0 ≤ e.fr ∧ e.fr < g.nodes.length ∧ 0 ≤ e.to ∧ e.to < g.nodes.length) (tok : Tks) (nt : Nat) : DCall Tryz.prog 67 [t.av, g.av] tok nt (B (lvsB t g)) tok nt := by
 intro box nb
 have hgn := hg.n
 have hge := hg.e
 have htn := ht.n
 obtain ⟨N, hN⟩ : ∃ N, lvsB t g = N := ⟨_, rfl⟩
 rw [hN]
 unfold lvsB at hN
 refine sB Tryz.func67 Tryz.ntmps67 ?_
 intro hbox htok
 simp only at hbox htok
 apply AL.start
 try (simp)
 repeat (refine sR ?_; simp)
 refine sN ?_
 refine AL.loopT (stKv t g nb box tok nt) (fun i => i ≤ g.nodes.length ∧ allP (lvN t) (g.nodes.take i) = true) (fun i => g.nodes.length - i) 0 ⟨Nat.zero_le _, by simp [allP]⟩ (Weaks.mk (Nat.le_refl _) rfl (by simp [ToL, lk, lb_at]) (by simp [BoxL, lk])) ?_
 rintro i S' ⟨hi, hok⟩ hS
 simp only [stKv] at hS
 subst hS
 have hw := sW (i := i) (by omega)
 try (simp)
 repeat (refine sR ?_; simp)
 refine sC ?_
 simp
 refine ⟨fun hlt => ?_, fun hge => ?_⟩
 ·have hno := fun h => all_no (p := lvN t) hlt h
  have hyes := fun h => all_more (p := lvN t) hlt hok h
  have hl : lvN t g.nodes[i] = if (t.nodes.length : Int) ≤ g.nodes[i] then false else leafB t g.nodes[i] := rfl
  have hc := leafK_c t (by omega) g.nodes[i]
  by_cases e1 : (t.nodes.length : Int) ≤ g.nodes[i]
  ·rw [if_pos e1] at hl
   rw [hno hl, if_neg (by simp)] at hN
   try (simp [hlt, e1])
   repeat (refine sR ?_; simp [hlt, e1])
   refine sC ?_
   simp [e1]
   try (simp)
   repeat (refine sR ?_; simp)
   refine sT ?_
   try simp only [AU]
   refine ⟨by simp, sF hbox htok (fun _ h => h) (Nat.le_refl _) ?_⟩
   simp [packA, ← hN]
  ·rw [if_neg e1] at hl
   try (simp [hlt, e1])
   repeat (refine sR ?_; simp [hlt, e1])
   refine Stop.of_d (hc _ _) ?_
   simp
   cases e2 : leafB t g.nodes[i]
   ·rw [e2] at hl
    rw [hno hl, if_neg (by simp)] at hN
    try (simp)
    repeat (refine sR ?_; simp)
    refine sC ?_
    simp
    try (simp)
    repeat (refine sR ?_; simp)
    refine sT ?_
    try simp only [AU]
    refine ⟨by simp, sF hbox htok (fun _ h => h) (Nat.le_refl _) ?_⟩
    simp [packA, ← hN]
   ·rw [e2] at hl
    try (simp)
    repeat (refine sR ?_; simp)
    refine sC ?_
    simp
    try (simp [hw])
    repeat (refine sR ?_; simp [hw])
    refine sE ?_
    exact ⟨i + 1, ⟨hlt, hyes hl⟩, by omega, Weaks.mk (Nat.le_refl _) rfl (by simp [ToL, lk, lb_at]) (by simp [BoxL, lk])⟩
 ·refine sX ?_
  simp only [AU, ↓reduceIte]
  have : i = g.nodes.length := by omega
  subst this
  rw [List.take_length] at hok
  rw [if_pos hok] at hN
  obtain ⟨p, hpp⟩ : ∃ p : E → Bool, (fun e => !lvE t g e) = p := ⟨_, rfl⟩
  have h2 := fun y (hy : y ∈ g.edges) box nb k1 k2 hk1 hk2 => leavesK1_c t ht g y ⟨(hv y hy).1, (hv y hy).2.1⟩ ⟨(hv y hy).2.2.1, (hv y hy).2.2.2⟩ box nb k1 k2 tok nt hk1 hk2
  have hpy : ∀ y : E, (!lvE t g y) = p y := fun y => by rw [← hpp]
  simp only [hpy] at h2
  have hN2 : (!anyB p g.edges) = N := by
   rw [← hN, ← hpp, allP, anyB, List.any_eq_not_all_not, Bool.not_not]
   simp
  try (simp)
  repeat (refine sR ?_; simp)
  have hcap : ∀ c ∈ [AV.ptr (nb + 2) 0 0, AV.ptr (nb + 3) 0 0], OkIn (fun k => (lb nb box [(3, [[.d (ints g.nodes), .d (AM.edges g.edges)]]), (2, [[.d (nts t.nodes), .d (ets t.edges)]])]) k ≠ none) (fun _ => True) c := by
   intro c hc
   simp only [List.mem_cons, List.not_mem_nil, or_false] at hc
   rcases hc with h | h
   ·rw [h]; simp [lb_at]
   ·rw [h]; simp [lb_at]
  refine Stop.of_b (containsFuncE_c g.edges 136 [.ptr (nb + 2) 0 0, .ptr (nb + 3) 0 0] p hg.e _ _ _ _ hcap (fun y hy box' nb' he => h2 y hy box' nb' _ _ (he _ _ (by simp [lb_at])) (he _ _ (by simp [lb_at])))) ?_
  simp
  try (simp)
  repeat (refine sR ?_; simp)
  refine sT ?_
  try simp only [AU]
  refine ⟨by simp, sF hbox htok (fun _ h => h) (Nat.le_refl _) ?_⟩
  simp [packA, ← hN2]
end Go.AM
namespace Go.AM
open Go Go.Proofs
def stIX (xs : List Xt) (f : FuncId) (caps : List AV) (nb : Nat) (box : Bxs) (tok : Tks) (nt : Nat) (i : Nat) : AState := ⟨tl [(0, .d (xts xs)), (1, .fn (.func f) caps), (7, I xs.length), (8, I i)], lb nb box [], tok, nt⟩
theorem indexFuncX_c (xs : List Xt) (f : FuncId) (caps : List AV) (p : Xt → Bool) (hx : xs.length ≤ 1000000) (box : Bxs) (nb : Nat) (tok : Tks) (nt : Nat) (hc : ∀ c ∈ caps, OkIn (fun k => box k ≠ none) (fun _ => True) c)
  (hf : ∀ x ∈ xs, ∀ box' nb', Ext box box' → ACalls Tryz.prog f (x.av :: caps) ⟨box', nb', tok, nt⟩ fun v m => v = B (p x) ∧ m = ⟨box', nb', tok, nt⟩) :
  ACalls Tryz.prog 138 [.d (xts xs), .fn (.func f) caps] ⟨box, nb, tok, nt⟩ fun v m => v = I (if anyB p xs = true then (xs.findIdx p : Nat) else -1) ∧ m = ⟨box, nb, tok, nt⟩ := by
 refine sB Tryz.func138 Tryz.ntmps138 ?_
 intro hbox htok
 simp only at hbox htok
 apply AL.start
 try (simp)
 repeat (refine sR ?_; simp)
 refine sN ?_
 refine AL.loopT (stIX xs f caps nb box tok nt) (fun i => i ≤ xs.length ∧ ∀ x ∈ xs.take i, p x = false) (fun i => xs.length - i) 0 ⟨Nat.zero_le _, by simp⟩ (Weaks.mk (Nat.le_refl _) rfl (by simp [ToL]; exact .same (okFn hc hbox [] (by simp) rfl _)) trivial) ?_
 rintro i S' ⟨hi, htk⟩ hS
 simp only [stIX] at hS
 subst hS
 have hw := sW (i := i) (by omega)
 try (simp)
 repeat (refine sR ?_; simp)
 refine sC ?_
 simp
 refine ⟨fun hlt => ?_, fun hge => ?_⟩
 ·have hfx := hf xs[i] (List.getElem_mem _)
  have hpx : p xs[i] = true → anyB p xs = true ∧ (xs.findIdx p = i) := fun he => any_takeG hlt htk he
  have hmore : p xs[i] = false → ∀ x ∈ xs.take (i + 1), p x = false := fun he x hx => by
   rw [List.take_succ_eq_append_getElem hlt] at hx
   rcases List.mem_append.1 hx with hx | hx
   ·exact htk x hx
   ·simp at hx; rw [hx]; exact he
  try (simp [hlt])
  repeat (refine sR ?_; simp [hlt])
  generalize xs[i] = x at *
  refine Stop.of_b (hfx _ _ ((Ext.refl box).lb hbox [])) ?_
  simp
  cases he : p x
  ·refine sC ?_
   simp
   try (simp [hw])
   repeat (refine sR ?_; simp [hw])
   refine sE ?_
   refine ⟨i + 1, ⟨hlt, ?_⟩, by omega, Weaks.mk (Nat.le_refl _) rfl (by simp [ToL]; exact .same (okFn hc hbox [] (by simp) rfl _)) trivial⟩
   exact hmore he
  ·obtain ⟨h1, h2⟩ := hpx he
   refine sC ?_
   simp
   try (simp)
   repeat (refine sR ?_; simp)
   refine sT ?_
   try simp only [AU]
   refine ⟨by simp, sF hbox htok (fun _ h => h) (Nat.le_refl _) ?_⟩
   simp [packA, h1, h2]
 ·have hn : anyB p xs = false := by
   rw [List.take_of_length_le hge] at htk
   simpa [anyB] using htk
  refine sX ?_
  simp only [AU, ↓reduceIte]
  try (simp)
  repeat (refine sR ?_; simp)
  refine sT ?_
  try simp only [AU]
  refine ⟨by simp, sF hbox htok (fun _ h => h) (Nat.le_refl _) ?_⟩
  simp [packA, hn]
theorem containsFuncX_c (xs : List Xt) (f : FuncId) (caps : List AV) (p : Xt → Bool) (hx : xs.length ≤ 1000000) (box : Bxs) (nb : Nat) (tok : Tks) (nt : Nat) (hc : ∀ c ∈ caps, OkIn (fun k => box k ≠ none) (fun _ => True) c)
  (hf : ∀ x ∈ xs, ∀ box' nb', Ext box box' → ACalls Tryz.prog f (x.av :: caps) ⟨box', nb', tok, nt⟩ fun v m => v = B (p x) ∧ m = ⟨box', nb', tok, nt⟩) :
  ACalls Tryz.prog 68 [.d (xts xs), .fn (.func f) caps] ⟨box, nb, tok, nt⟩ fun v m => v = B (anyB p xs) ∧ m = ⟨box, nb, tok, nt⟩ := by
 obtain ⟨A, hany⟩ : ∃ A, anyB p xs = A := ⟨_, rfl⟩
 have hi := fun b nb' h1 h2 => indexFuncX_c xs f caps p hx b nb' tok nt h1 h2
 rw [hany]
 simp only [hany] at hi
 refine sB Tryz.func68 Tryz.ntmps68 ?_
 intro hbox htok
 simp only at hbox htok
 apply AL.start
 try (simp)
 repeat (refine sR ?_; simp)
 refine Stop.of_b (hi (lb nb box []) _ (fun c h => (hc c h).mono (fun k hk => by rw [hbox]; exact hk) fun _ h => h) (fun x hx' box' nb' he => hf x hx' box' nb' (by rw [hbox] at he; exact he))) ?_
 simp
 cases A
 ·try (simp)
  repeat (refine sR ?_; simp)
  refine sT ?_
  try simp only [AU]
  refine ⟨by simp, sF hbox htok (fun _ h => h) (Nat.le_refl _) ?_⟩
  simp [packA]
 ·have h0 : (0 : Int) ≤ (xs.findIdx p : Nat) := by omega
  try (simp)
  repeat (refine sR ?_; simp)
  refine sT ?_
  try simp only [AU]
  refine ⟨by simp, sF hbox htok (fun _ h => h) (Nat.le_refl _) ?_⟩
  simp [packA, h0]
end Go.AM
namespace Go.AM
open Go Go.Proofs
theorem lrgK_c (g : Gr) (hg : g.Fit) (tok : Tks) (nt : Nat) : DCall Tryz.prog 123 [g.av] tok nt (B (lrgB g)) tok nt := by
 intro box nb
 have hn := hg.n
 have he := hg.e
 obtain ⟨N, hN⟩ : ∃ N, lrgB g = N := ⟨_, rfl⟩
 rw [hN]
 unfold lrgB at hN
 by_cases e1 : 6 < g.nodes.length
 ·have e1' : (6 : Int) < g.nodes.length := by omega
  rw [if_pos e1] at hN
  refine sB Tryz.func123 Tryz.ntmps123 ?_
  intro hbox htok
  simp only at hbox htok
  apply AL.start
  try (simp [e1, e1'])
  repeat (first | (refine sR ?_; simp [e1, e1']) | (refine sC ?_; simp [e1, e1']) | (refine sX ?_; simp only [AU, ↓reduceIte]))
  refine sT ?_
  try simp only [AU]
  refine ⟨by simp, sF hbox htok (fun _ h => h) (Nat.le_refl _) ?_⟩
  simp [packA, ← hN]
 ·have e1' : ¬ (6 : Int) < g.nodes.length := by omega
  rw [if_neg e1] at hN
  by_cases e2 : 8 < g.edges.length
  ·have e2' : (8 : Int) < g.edges.length := by omega
   rw [decide_eq_true e2] at hN
   refine sB Tryz.func123 Tryz.ntmps123 ?_
   intro hbox htok
   simp only at hbox htok
   apply AL.start
   try (simp [e1, e1', e2, e2'])
   repeat (first | (refine sR ?_; simp [e1, e1', e2, e2']) | (refine sC ?_; simp [e1, e1', e2, e2']) | (refine sX ?_; simp only [AU, ↓reduceIte]))
   refine sT ?_
   try simp only [AU]
   refine ⟨by simp, sF hbox htok (fun _ h => h) (Nat.le_refl _) ?_⟩
   simp [packA, ← hN, e2']
  ·have e2' : ¬ (8 : Int) < g.edges.length := by omega
   rw [decide_eq_false e2] at hN
   refine sB Tryz.func123 Tryz.ntmps123 ?_
   intro hbox htok
   simp only at hbox htok
   apply AL.start
   try (simp [e1, e1', e2, e2'])
   repeat (first | (refine sR ?_; simp [e1, e1', e2, e2']) | (refine sC ?_; simp [e1, e1', e2, e2']) | (refine sX ?_; simp only [AU, ↓reduceIte]))
   refine sT ?_
   try simp only [AU]
   refine ⟨by simp, sF hbox htok (fun _ h => h) (Nat.le_refl _) ?_⟩
   simp [packA, ← hN, e2']
theorem kd_cases (c : Co) : (c.kind = 1 ∧ c.exts = [] ∧ kdE c = 0) ∨ (c.kind = 1 ∧ c.exts ≠ [] ∧ kdE c = 1) ∨ (c.kind = 2 ∧ c.exts = [] ∧ kdE c = 7) ∨ (c.kind = 2 ∧ c.exts ≠ [] ∧ 6 < c.exts.length ∧ kdE c = 3) ∨ (c.kind = 2 ∧ c.exts ≠ [] ∧ ¬ 6 < c.exts.length ∧ kdE c = 0) ∨ (c.kind ≠ 1 ∧ c.kind ≠ 2 ∧ kdE c = 1) := by
 unfold kdE
 by_cases h1 : c.kind = 1
 ·by_cases h2 : c.exts = [] <;> simp [h1, h2]
 ·by_cases h2 : c.kind = 2
  ·by_cases h3 : c.exts = []
   ·simp [h2, h3]
   ·by_cases h4 : 6 < c.exts.length <;> simp [h2, h3, h4]
  ·simp [h1, h2]
def stSx (c : Co) (nb : Nat) (box : Bxs) (tok : Tks) (nt : Nat) (i : Nat) : AState :=
 ⟨tl [(59, I i), (58, I c.exts.length), (57, .d (xts c.exts)), (1, .ptr (nb + 1) 0 0)], lb nb box [(1, [c.row])], tok, nt⟩
theorem shpK_c (c : Co) (hc : c.Fit) (tok : Tks) (nt : Nat) : DCall Tryz.prog 60 [c.av] tok nt (I (shpE c)) tok nt := by
 intro box nb
 have h1 := isName_c c.name hc.name
 have h2 := graphValid_c c.g hc.g
 have h3 := lrgK_c c.g hc.g
 have hxn := hc.n
 obtain ⟨N, hN⟩ : ∃ N, shpE c = N := ⟨_, rfl⟩
 rw [hN]
 unfold shpE at hN
 generalize nameB c.name = B1 at *
 generalize validG c.g = E2 at *
 generalize lrgB c.g = B3 at *
 cases B1
 ·rw [if_pos rfl] at hN
  refine sB Tryz.func60 Tryz.ntmps60 ?_
  intro hbox htok
  simp only at hbox htok
  apply AL.start
  try (simp)
  repeat (refine sR ?_; simp)
  refine Stop.of_d (h1 _ _) ?_
  simp
  try (simp)
  repeat (first | (refine sR ?_; simp) | (refine sC ?_; simp) | (refine sX ?_; simp only [AU, ↓reduceIte]))
  refine sT ?_
  try simp only [AU]
  refine ⟨by simp, sF hbox htok (fun _ h => h) (Nat.le_refl _) ?_⟩
  simp [packA, ← hN]
 ·rw [if_neg (by simp)] at hN
  have xp := fun (h : c.exts ≠ []) => List.length_pos_iff.2 h
  rcases kd_cases c with ⟨k1, x1, kd⟩ | ⟨k1, x1, kd⟩ | ⟨k1, x1, kd⟩ | ⟨k1, x1, x2, kd⟩ | ⟨k1, x1, x2, kd⟩ | ⟨k1, k2, kd⟩
  ·rw [if_neg (by rw [kd]; decide)] at hN
   refine sB Tryz.func60 Tryz.ntmps60 ?_
   intro hbox htok
   simp only at hbox htok
   apply AL.start
   try (simp)
   repeat (refine sR ?_; simp)
   refine Stop.of_d (h1 _ _) ?_
   simp
   try (simp [k1, x1])
   repeat (first | (refine sR ?_; simp [k1, x1]) | (refine sC ?_; simp [k1, x1]) | (refine sX ?_; simp only [AU, ↓reduceIte]))
   refine Stop.of_d (h2 _ _) ?_
   simp
   try (simp)
   repeat (refine sR ?_; simp)
   by_cases v0 : E2 = 0
   ·rw [if_neg (by simp [v0])] at hN
    refine sC ?_
    simp [v0]
    try (simp)
    repeat (refine sR ?_; simp)
    refine Stop.of_d (h3 _ _) ?_
    simp
    cases B3
    ·rw [if_neg (by simp)] at hN
     try (simp)
     repeat (refine sR ?_; simp)
     refine sC ?_
     simp
     try (simp)
     repeat (refine sR ?_; simp)
     refine sN ?_
     refine AL.loopT (stSx c nb box tok nt) (fun i => i ≤ c.exts.length ∧ firstE (xtAt c) i = 0) (fun i => c.exts.length - i) 0 ⟨Nat.zero_le _, rfl⟩ (Weaks.mk (Nat.le_refl _) rfl (by simp [ToL, lk, lb_at]) (by simp [BoxL, lk])) ?_
     rintro i S' ⟨hi, hok⟩ hS
     simp only [stSx] at hS
     subst hS
     have hw := sW (i := i) (by omega)
     try (simp)
     repeat (refine sR ?_; simp)
     refine sC ?_
     simp
     refine ⟨fun hlt => ?_, fun hge => ?_⟩
     ·have hx := hc.exts _ (List.getElem_mem hlt)
      have hR : xtAt c i ≠ 0 → firstE (xtAt c) c.exts.length = xtAt c i := fun h0 => firstE_stop hok h0 _ hlt
      have hnx : xtAt c i = 0 → firstE (xtAt c) (i + 1) = 0 := fun h0 => by simp only [firstE, hok, h0, ↓reduceIte]
      have hd : xtAt c i = xtE c.g c.exts[i] := xtAt_at hlt
      unfold xtE at hd
      have c1 := valid51_c c.g c.exts[i].g c.exts[i].m hc.g hx.g
      have c2 := lrgK_c c.exts[i].g hx.g
      have c3 := injective56_c c.g c.exts[i].g c.exts[i].m hc.g hx.g hx.m
      generalize xtAt c i = E at *
      try (simp [hlt])
      repeat (refine sR ?_; simp [hlt])
      refine Stop.of_d (c1 _ _) ?_
      simp
      try (simp)
      repeat (refine sR ?_; simp)
      by_cases f1 : validM c.g c.exts[i].g c.exts[i].m = 0
      ·rw [if_neg (by simp [f1])] at hd
       simp only [f1]
       refine sC ?_
       simp
       try (simp)
       repeat (refine sR ?_; simp)
       refine Stop.of_d (c2 _ _) ?_
       simp
       cases f2 : lrgB c.exts[i].g
       ·rw [f2, if_neg (by simp)] at hd
        try (simp)
        repeat (refine sR ?_; simp)
        refine sC ?_
        simp
        try (simp)
        repeat (refine sR ?_; simp)
        refine Stop.of_d (c3 _ _) ?_
        simp
        cases f3 : injM c.g c.exts[i].g c.exts[i].m
        ·rw [f3, if_neg (by simp)] at hd
         rw [hR (by rw [hd]; decide), hd] at hN
         try (simp)
         repeat (refine sR ?_; simp)
         refine sC ?_
         simp
         try (simp)
         repeat (refine sR ?_; simp)
         refine sT ?_
         try simp only [AU]
         refine ⟨by simp, sF hbox htok (fun _ h => h) (Nat.le_refl _) ?_⟩
         simp [packA, ← hN]
        ·rw [f3, if_pos rfl] at hd
         try (simp)
         repeat (refine sR ?_; simp)
         refine sC ?_
         simp
         try (simp [hw])
         repeat (refine sR ?_; simp [hw])
         refine sE ?_
         exact ⟨i + 1, ⟨hlt, hnx hd⟩, by omega, Weaks.mk (Nat.le_refl _) rfl (by simp [ToL, lk, lb_at]) (by simp [BoxL, lk])⟩
       ·rw [f2, if_pos rfl] at hd
        rw [hR (by rw [hd]; decide), hd] at hN
        try (simp)
        repeat (refine sR ?_; simp)
        refine sC ?_
        simp
        try (simp)
        repeat (refine sR ?_; simp)
        refine sT ?_
        try simp only [AU]
        refine ⟨by simp, sF hbox htok (fun _ h => h) (Nat.le_refl _) ?_⟩
        simp [packA, ← hN]
      ·rw [if_pos f1] at hd
       have b1 : (validM c.g c.exts[i].g c.exts[i].m != 0) = true := by simp [f1]
       rw [hR (by rw [hd]; exact f1), hd] at hN
       simp only [b1]
       refine sC ?_
       simp
       try (simp)
       repeat (refine sR ?_; simp)
       refine sT ?_
       try simp only [AU]
       refine ⟨by simp, sF hbox htok (fun _ h => h) (Nat.le_refl _) ?_⟩
       simp [packA, ← hN]
     ·refine sX ?_
      simp only [AU, ↓reduceIte]
      have : i = c.exts.length := by omega
      subst this
      rw [hok] at hN
      try (simp)
      repeat (refine sR ?_; simp)
      refine sT ?_
      try simp only [AU]
      refine ⟨by simp, sF hbox htok (fun _ h => h) (Nat.le_refl _) ?_⟩
      simp [packA, ← hN]
    ·rw [if_pos rfl] at hN
     try (simp)
     repeat (refine sR ?_; simp)
     refine sC ?_
     simp
     try (simp)
     repeat (refine sR ?_; simp)
     refine sT ?_
     try simp only [AU]
     refine ⟨by simp, sF hbox htok (fun _ h => h) (Nat.le_refl _) ?_⟩
     simp [packA, ← hN]
   ·have b0 : (E2 != 0) = true := by simp [v0]
    rw [if_pos v0] at hN
    refine sC ?_
    simp [v0, b0]
    try (simp)
    repeat (refine sR ?_; simp)
    refine sT ?_
    try simp only [AU]
    refine ⟨by simp, sF hbox htok (fun _ h => h) (Nat.le_refl _) ?_⟩
    simp [packA, ← hN]
  ·rw [if_pos (by rw [kd]; decide), kd] at hN
   have x1' := xp x1
   refine sB Tryz.func60 Tryz.ntmps60 ?_
   intro hbox htok
   simp only at hbox htok
   apply AL.start
   try (simp)
   repeat (refine sR ?_; simp)
   refine Stop.of_d (h1 _ _) ?_
   simp
   try (simp [k1, x1, x1'])
   repeat (first | (refine sR ?_; simp [k1, x1, x1']) | (refine sC ?_; simp [k1, x1, x1']) | (refine sX ?_; simp only [AU, ↓reduceIte]))
   refine sT ?_
   try simp only [AU]
   refine ⟨by simp, sF hbox htok (fun _ h => h) (Nat.le_refl _) ?_⟩
   simp [packA, ← hN]
  ·rw [if_pos (by rw [kd]; decide), kd] at hN
   refine sB Tryz.func60 Tryz.ntmps60 ?_
   intro hbox htok
   simp only at hbox htok
   apply AL.start
   try (simp)
   repeat (refine sR ?_; simp)
   refine Stop.of_d (h1 _ _) ?_
   simp
   try (simp [k1, x1])
   repeat (first | (refine sR ?_; simp [k1, x1]) | (refine sC ?_; simp [k1, x1]) | (refine sX ?_; simp only [AU, ↓reduceIte]))
   refine sT ?_
   try simp only [AU]
   refine ⟨by simp, sF hbox htok (fun _ h => h) (Nat.le_refl _) ?_⟩
   simp [packA, ← hN]
  ·rw [if_pos (by rw [kd]; decide), kd] at hN
   have x2' : (6 : Int) < c.exts.length := by omega
   refine sB Tryz.func60 Tryz.ntmps60 ?_
   intro hbox htok
   simp only at hbox htok
   apply AL.start
   try (simp)
   repeat (refine sR ?_; simp)
   refine Stop.of_d (h1 _ _) ?_
   simp
   try (simp [k1, x1, x2, x2'])
   repeat (first | (refine sR ?_; simp [k1, x1, x2, x2']) | (refine sC ?_; simp [k1, x1, x2, x2']) | (refine sX ?_; simp only [AU, ↓reduceIte]))
   refine sT ?_
   try simp only [AU]
   refine ⟨by simp, sF hbox htok (fun _ h => h) (Nat.le_refl _) ?_⟩
   simp [packA, ← hN]
  ·rw [if_neg (by rw [kd]; decide)] at hN
   have x2' : ¬ (6 : Int) < c.exts.length := by omega
   refine sB Tryz.func60 Tryz.ntmps60 ?_
   intro hbox htok
   simp only at hbox htok
   apply AL.start
   try (simp)
   repeat (refine sR ?_; simp)
   refine Stop.of_d (h1 _ _) ?_
   simp
   try (simp [k1, x1, x2, x2'])
   repeat (first | (refine sR ?_; simp [k1, x1, x2, x2']) | (refine sC ?_; simp [k1, x1, x2, x2']) | (refine sX ?_; simp only [AU, ↓reduceIte]))
   refine Stop.of_d (h2 _ _) ?_
   simp
   try (simp)
   repeat (refine sR ?_; simp)
   by_cases v0 : E2 = 0
   ·rw [if_neg (by simp [v0])] at hN
    refine sC ?_
    simp [v0]
    try (simp)
    repeat (refine sR ?_; simp)
    refine Stop.of_d (h3 _ _) ?_
    simp
    cases B3
    ·rw [if_neg (by simp)] at hN
     try (simp)
     repeat (refine sR ?_; simp)
     refine sC ?_
     simp
     try (simp)
     repeat (refine sR ?_; simp)
     refine sN ?_
     refine AL.loopT (stSx c nb box tok nt) (fun i => i ≤ c.exts.length ∧ firstE (xtAt c) i = 0) (fun i => c.exts.length - i) 0 ⟨Nat.zero_le _, rfl⟩ (Weaks.mk (Nat.le_refl _) rfl (by simp [ToL, lk, lb_at]) (by simp [BoxL, lk])) ?_
     rintro i S' ⟨hi, hok⟩ hS
     simp only [stSx] at hS
     subst hS
     have hw := sW (i := i) (by omega)
     try (simp)
     repeat (refine sR ?_; simp)
     refine sC ?_
     simp
     refine ⟨fun hlt => ?_, fun hge => ?_⟩
     ·have hx := hc.exts _ (List.getElem_mem hlt)
      have hR : xtAt c i ≠ 0 → firstE (xtAt c) c.exts.length = xtAt c i := fun h0 => firstE_stop hok h0 _ hlt
      have hnx : xtAt c i = 0 → firstE (xtAt c) (i + 1) = 0 := fun h0 => by simp only [firstE, hok, h0, ↓reduceIte]
      have hd : xtAt c i = xtE c.g c.exts[i] := xtAt_at hlt
      unfold xtE at hd
      have c1 := valid51_c c.g c.exts[i].g c.exts[i].m hc.g hx.g
      have c2 := lrgK_c c.exts[i].g hx.g
      have c3 := injective56_c c.g c.exts[i].g c.exts[i].m hc.g hx.g hx.m
      generalize xtAt c i = E at *
      try (simp [hlt])
      repeat (refine sR ?_; simp [hlt])
      refine Stop.of_d (c1 _ _) ?_
      simp
      try (simp)
      repeat (refine sR ?_; simp)
      by_cases f1 : validM c.g c.exts[i].g c.exts[i].m = 0
      ·rw [if_neg (by simp [f1])] at hd
       simp only [f1]
       refine sC ?_
       simp
       try (simp)
       repeat (refine sR ?_; simp)
       refine Stop.of_d (c2 _ _) ?_
       simp
       cases f2 : lrgB c.exts[i].g
       ·rw [f2, if_neg (by simp)] at hd
        try (simp)
        repeat (refine sR ?_; simp)
        refine sC ?_
        simp
        try (simp)
        repeat (refine sR ?_; simp)
        refine Stop.of_d (c3 _ _) ?_
        simp
        cases f3 : injM c.g c.exts[i].g c.exts[i].m
        ·rw [f3, if_neg (by simp)] at hd
         rw [hR (by rw [hd]; decide), hd] at hN
         try (simp)
         repeat (refine sR ?_; simp)
         refine sC ?_
         simp
         try (simp)
         repeat (refine sR ?_; simp)
         refine sT ?_
         try simp only [AU]
         refine ⟨by simp, sF hbox htok (fun _ h => h) (Nat.le_refl _) ?_⟩
         simp [packA, ← hN]
        ·rw [f3, if_pos rfl] at hd
         try (simp)
         repeat (refine sR ?_; simp)
         refine sC ?_
         simp
         try (simp [hw])
         repeat (refine sR ?_; simp [hw])
         refine sE ?_
         exact ⟨i + 1, ⟨hlt, hnx hd⟩, by omega, Weaks.mk (Nat.le_refl _) rfl (by simp [ToL, lk, lb_at]) (by simp [BoxL, lk])⟩
       ·rw [f2, if_pos rfl] at hd
        rw [hR (by rw [hd]; decide), hd] at hN
        try (simp)
        repeat (refine sR ?_; simp)
        refine sC ?_
        simp
        try (simp)
        repeat (refine sR ?_; simp)
        refine sT ?_
        try simp only [AU]
        refine ⟨by simp, sF hbox htok (fun _ h => h) (Nat.le_refl _) ?_⟩
        simp [packA, ← hN]
      ·rw [if_pos f1] at hd
       have b1 : (validM c.g c.exts[i].g c.exts[i].m != 0) = true := by simp [f1]
       rw [hR (by rw [hd]; exact f1), hd] at hN
       simp only [b1]
       refine sC ?_
       simp
       try (simp)
       repeat (refine sR ?_; simp)
       refine sT ?_
       try simp only [AU]
       refine ⟨by simp, sF hbox htok (fun _ h => h) (Nat.le_refl _) ?_⟩
       simp [packA, ← hN]
     ·refine sX ?_
      simp only [AU, ↓reduceIte]
      have : i = c.exts.length := by omega
      subst this
      rw [hok] at hN
      try (simp)
      repeat (refine sR ?_; simp)
      refine sT ?_
      try simp only [AU]
      refine ⟨by simp, sF hbox htok (fun _ h => h) (Nat.le_refl _) ?_⟩
      simp [packA, ← hN]
    ·rw [if_pos rfl] at hN
     try (simp)
     repeat (refine sR ?_; simp)
     refine sC ?_
     simp
     try (simp)
     repeat (refine sR ?_; simp)
     refine sT ?_
     try simp only [AU]
     refine ⟨by simp, sF hbox htok (fun _ h => h) (Nat.le_refl _) ?_⟩
     simp [packA, ← hN]
   ·have b0 : (E2 != 0) = true := by simp [v0]
    rw [if_pos v0] at hN
    refine sC ?_
    simp [v0, b0]
    try (simp)
    repeat (refine sR ?_; simp)
    refine sT ?_
    try simp only [AU]
    refine ⟨by simp, sF hbox htok (fun _ h => h) (Nat.le_refl _) ?_⟩
    simp [packA, ← hN]
  ·rw [if_pos (by rw [kd]; decide), kd] at hN
   have b1 : (c.kind == 1) = false := by simp [k1]
   have b2 : (c.kind == 2) = false := by simp [k2]
   have b3 : (c.kind != 1) = true := by simp [k1]
   have b4 : (c.kind != 2) = true := by simp [k2]
   refine sB Tryz.func60 Tryz.ntmps60 ?_
   intro hbox htok
   simp only at hbox htok
   apply AL.start
   try (simp)
   repeat (refine sR ?_; simp)
   refine Stop.of_d (h1 _ _) ?_
   simp
   try (simp [k1, k2, b1, b2, b3, b4])
   repeat (first | (refine sR ?_; simp [k1, k2, b1, b2, b3, b4]) | (refine sC ?_; simp [k1, k2, b1, b2, b3, b4]) | (refine sX ?_; simp only [AU, ↓reduceIte]))
   refine sT ?_
   try simp only [AU]
   refine ⟨by simp, sF hbox htok (fun _ h => h) (Nat.le_refl _) ?_⟩
   simp [packA, ← hN]
theorem validK1_c (t : Ty) (ht : t.Fit) (x : Xt) (hx : x.g.Fit) (hv : ∀ e ∈ x.g.edges, 0 ≤ e.fr ∧ e.fr < x.g.nodes.length ∧ 0 ≤ e.to ∧ e.to < x.g.nodes.length) (box : Bxs) (nb k1 : Nat) (tok : Tks) (nt : Nat) (h1 : box k1 = some [[.d (nts t.nodes), .d (ets t.edges)]]) :
  ACalls Tryz.prog 69 [x.av, .ptr k1 0 0] ⟨box, nb, tok, nt⟩ fun v m => v = B (!lvsB t x.g) ∧ m = ⟨box, nb, tok, nt⟩ := by
 have hc := leavesK_c t ht x.g hx hv
 generalize lvsB t x.g = R at *
 refine sB Tryz.func69 Tryz.ntmps69 ?_
 intro hbox htok
 simp only at hbox htok
 apply AL.start
 have k1n := key_lt hbox h1
 try (simp [lb_out k1n, h1])
 repeat (refine sR ?_; simp [lb_out k1n, h1])
 refine Stop.of_d (hc _ _) ?_
 simp
 try (simp)
 repeat (refine sR ?_; simp)
 refine sT ?_
 try simp only [AU]
 refine ⟨by simp, sF hbox htok (fun _ h => h) (Nat.le_refl _) ?_⟩
 simp [packA]
theorem validK_c (t : Ty) (ht : t.Fit) (c : Co) (hc : c.Fit) (tok : Tks) (nt : Nat) : DCall Tryz.prog 17 [t.av, c.av] tok nt (I (cnE t c)) tok nt := by
 intro box nb
 have h1 := valid_c4 t ht ht.hM
 have h2 := shpK_c c hc
 have hv := @shpE_zero c
 obtain ⟨N, hN⟩ : ∃ N, cnE t c = N := ⟨_, rfl⟩
 rw [hN]
 unfold cnE at hN
 generalize tyE t = E at *
 generalize tyN t = Z at *
 generalize shpE c = S at *
 refine sB Tryz.func17 Tryz.ntmps17 ?_
 intro hbox htok
 simp only at hbox htok
 apply AL.start
 try (simp)
 repeat (refine sR ?_; simp)
 refine Stop.of_d (h1 _ _) ?_
 simp
 try (simp)
 repeat (refine sR ?_; simp)
 by_cases e1 : E = 0
 ·rw [if_neg (by simp [e1])] at hN
  refine sC ?_
  simp [e1]
  try (simp)
  repeat (refine sR ?_; simp)
  refine Stop.of_d (h2 _ _) ?_
  simp
  try (simp)
  repeat (refine sR ?_; simp)
  by_cases e2 : S = 0
  ·rw [if_neg (by simp [e2])] at hN
   obtain ⟨_, _, v1, _, v2⟩ := hv e2
   have l1 := leavesK_c t ht c.g hc.g (validG_edges v1)
   have l2 := fun x (hx : x ∈ c.exts) => validK1_c t ht x (hc.exts x hx).g (validG_edges (validM_VM (v2 x hx).1).vb)
   unfold lvX at hN
   refine sC ?_
   simp [e2]
   try (simp)
   repeat (refine sR ?_; simp)
   refine Stop.of_d (l1 _ _) ?_
   simp
   cases e3 : lvsB t c.g
   ·rw [e3, if_neg (by simp)] at hN
    try (simp)
    repeat (refine sR ?_; simp)
    refine sC ?_
    simp
    try (simp)
    repeat (refine sR ?_; simp)
    refine sT ?_
    try simp only [AU]
    refine ⟨by simp, sF hbox htok (fun _ h => h) (Nat.le_refl _) ?_⟩
    simp [packA, ← hN]
   ·rw [e3, if_pos rfl] at hN
    obtain ⟨p, hpp⟩ : ∃ p : Xt → Bool, (fun x : Xt => !lvsB t x.g) = p := ⟨_, rfl⟩
    have hpy : ∀ y : Xt, (!lvsB t y.g) = p y := fun y => by rw [← hpp]
    simp only [hpy] at l2
    have hN2 : (!anyB p c.exts) = allP (fun x : Xt => lvsB t x.g) c.exts := by
     rw [← hpp, allP, anyB, List.any_eq_not_all_not, Bool.not_not]
     simp
    rw [← hN2] at hN
    try (simp)
    repeat (refine sR ?_; simp)
    refine Stop.of_b (containsFuncX_c c.exts 69 [.ptr (nb + 2) 0 0] p hc.n _ _ _ _ (fun c hc => by rw [List.mem_singleton.1 hc]; simp [lb_at]) (fun y hy box' nb' he => l2 y hy box' nb' _ _ _ (he _ _ (by simp [lb_at])))) ?_
    simp
    cases e4 : anyB p c.exts
    ·rw [e4, Bool.not_false, if_pos rfl] at hN
     try (simp)
     repeat (refine sR ?_; simp)
     refine sC ?_
     simp
     try (simp)
     repeat (refine sR ?_; simp)
     refine sT ?_
     try simp only [AU]
     refine ⟨by simp, sF hbox htok (fun _ h => h) (Nat.le_refl _) ?_⟩
     simp [packA, ← hN]
    ·rw [e4, Bool.not_true, if_neg (by simp)] at hN
     try (simp)
     repeat (refine sR ?_; simp)
     refine sC ?_
     simp
     try (simp)
     repeat (refine sR ?_; simp)
     refine sT ?_
     try simp only [AU]
     refine ⟨by simp, sF hbox htok (fun _ h => h) (Nat.le_refl _) ?_⟩
     simp [packA, ← hN]
  ·rw [if_pos e2] at hN
   have b2 : (S != 0) = true := by simp [e2]
   refine sC ?_
   simp [b2]
   try (simp)
   repeat (refine sR ?_; simp)
   refine sT ?_
   try simp only [AU]
   refine ⟨by simp, sF hbox htok (fun _ h => h) (Nat.le_refl _) ?_⟩
   simp [packA, ← hN]
 ·rw [if_pos e1] at hN
  have b1 : (E != 0) = true := by simp [e1]
  refine sC ?_
  simp [b1]
  try (simp)
  repeat (refine sR ?_; simp)
  refine sT ?_
  try simp only [AU]
  refine ⟨by simp, sF hbox htok (fun _ h => h) (Nat.le_refl _) ?_⟩
  simp [packA, ← hN]
end Go.AM
namespace Go.AM
open Go Go.Proofs
end Go.AM
namespace Go.AM
open Go Go.Proofs
end Go.AM
namespace Go.AM
open Go Go.Proofs
theorem lrgS_c (g : Gr) (hg : g.Fit) (tok : Tks) (nt : Nat) : DCall Tryz.prog 130 [g.av] tok nt (B (lrgB g)) tok nt := by
 intro box nb
 have hn := hg.n
 have he := hg.e
 obtain ⟨N, hN⟩ : ∃ N, lrgB g = N := ⟨_, rfl⟩
 rw [hN]
 unfold lrgB at hN
 by_cases e1 : 6 < g.nodes.length
 ·have e1' : (6 : Int) < g.nodes.length := by omega
  rw [if_pos e1] at hN
  refine sB Tryz.func130 Tryz.ntmps130 ?_
  intro hbox htok
  simp only at hbox htok
  apply AL.start
  try (simp [e1, e1'])
  repeat (first | (refine sR ?_; simp [e1, e1']) | (refine sC ?_; simp [e1, e1']) | (refine sX ?_; simp only [AU, ↓reduceIte]))
  refine sT ?_
  try simp only [AU]
  refine ⟨by simp, sF hbox htok (fun _ h => h) (Nat.le_refl _) ?_⟩
  simp [packA, ← hN]
 ·have e1' : ¬ (6 : Int) < g.nodes.length := by omega
  rw [if_neg e1] at hN
  by_cases e2 : 8 < g.edges.length
  ·have e2' : (8 : Int) < g.edges.length := by omega
   rw [decide_eq_true e2] at hN
   refine sB Tryz.func130 Tryz.ntmps130 ?_
   intro hbox htok
   simp only at hbox htok
   apply AL.start
   try (simp [e1, e1', e2, e2'])
   repeat (first | (refine sR ?_; simp [e1, e1', e2, e2']) | (refine sC ?_; simp [e1, e1', e2, e2']) | (refine sX ?_; simp only [AU, ↓reduceIte]))
   refine sT ?_
   try simp only [AU]
   refine ⟨by simp, sF hbox htok (fun _ h => h) (Nat.le_refl _) ?_⟩
   simp [packA, ← hN, e2']
  ·have e2' : ¬ (8 : Int) < g.edges.length := by omega
   rw [decide_eq_false e2] at hN
   refine sB Tryz.func130 Tryz.ntmps130 ?_
   intro hbox htok
   simp only at hbox htok
   apply AL.start
   try (simp [e1, e1', e2, e2'])
   repeat (first | (refine sR ?_; simp [e1, e1', e2, e2']) | (refine sC ?_; simp [e1, e1', e2, e2']) | (refine sX ?_; simp only [AU, ↓reduceIte]))
   refine sT ?_
   try simp only [AU]
   refine ⟨by simp, sF hbox htok (fun _ h => h) (Nat.le_refl _) ?_⟩
   simp [packA, ← hN, e2']
def stSy (c : Co) (nb : Nat) (box : Bxs) (tok : Tks) (nt : Nat) (i : Nat) : AState :=
 ⟨tl [(4, I i), (1, .ptr (nb + 1) 0 0)], lb nb box [(1, [c.row])], tok, nt⟩
theorem shpS_c (c : Co) (hc : c.Fit) (tok : Tks) (nt : Nat) : DCall Tryz.prog 63 [c.av] tok nt (I (shpE c)) tok nt := by
 intro box nb
 have h1 := isName01_c c.name hc.name
 have h2 := valid05_c c.g hc.g
 have h3 := lrgS_c c.g hc.g
 have hxn := hc.n
 obtain ⟨N, hN⟩ : ∃ N, shpE c = N := ⟨_, rfl⟩
 rw [hN]
 unfold shpE at hN
 generalize nameB c.name = B1 at *
 generalize validG c.g = E2 at *
 generalize lrgB c.g = B3 at *
 cases B1
 ·rw [if_pos rfl] at hN
  refine sB Tryz.func63 Tryz.ntmps63 ?_
  intro hbox htok
  simp only at hbox htok
  apply AL.start
  try (simp)
  repeat (refine sR ?_; simp)
  refine Stop.of_d (h1 _ _) ?_
  simp
  try (simp)
  repeat (first | (refine sR ?_; simp) | (refine sC ?_; simp) | (refine sX ?_; simp only [AU, ↓reduceIte]))
  refine sT ?_
  try simp only [AU]
  refine ⟨by simp, sF hbox htok (fun _ h => h) (Nat.le_refl _) ?_⟩
  simp [packA, ← hN]
 ·rw [if_neg (by simp)] at hN
  have xp := fun (h : c.exts ≠ []) => List.length_pos_iff.2 h
  rcases kd_cases c with ⟨k1, x1, kd⟩ | ⟨k1, x1, kd⟩ | ⟨k1, x1, kd⟩ | ⟨k1, x1, x2, kd⟩ | ⟨k1, x1, x2, kd⟩ | ⟨k1, k2, kd⟩
  ·rw [if_neg (by rw [kd]; decide)] at hN
   refine sB Tryz.func63 Tryz.ntmps63 ?_
   intro hbox htok
   simp only at hbox htok
   apply AL.start
   try (simp)
   repeat (refine sR ?_; simp)
   refine Stop.of_d (h1 _ _) ?_
   simp
   try (simp [k1, x1])
   repeat (first | (refine sR ?_; simp [k1, x1]) | (refine sC ?_; simp [k1, x1]) | (refine sX ?_; simp only [AU, ↓reduceIte]))
   refine Stop.of_d (h2 _ _) ?_
   simp
   try (simp)
   repeat (refine sR ?_; simp)
   by_cases v0 : E2 = 0
   ·rw [if_neg (by simp [v0])] at hN
    refine sC ?_
    simp [v0]
    try (simp)
    repeat (refine sR ?_; simp)
    refine Stop.of_d (h3 _ _) ?_
    simp
    cases B3
    ·rw [if_neg (by simp)] at hN
     try (simp)
     repeat (refine sR ?_; simp)
     refine sC ?_
     simp
     try (simp)
     repeat (refine sR ?_; simp)
     refine sN ?_
     refine AL.loopT (stSy c nb box tok nt) (fun i => i ≤ c.exts.length ∧ firstE (xtAt c) i = 0) (fun i => c.exts.length - i) 0 ⟨Nat.zero_le _, rfl⟩ (Weaks.mk (Nat.le_refl _) rfl (by simp [ToL, lk, lb_at]) (by simp [BoxL, lk])) ?_
     rintro i S' ⟨hi, hok⟩ hS
     simp only [stSy] at hS
     subst hS
     have hw := sW (i := i) (by omega)
     try (simp)
     repeat (refine sR ?_; simp)
     refine sC ?_
     simp
     refine ⟨fun hlt => ?_, fun hge => ?_⟩
     ·have hx := hc.exts _ (List.getElem_mem hlt)
      have hR : xtAt c i ≠ 0 → firstE (xtAt c) c.exts.length = xtAt c i := fun h0 => firstE_stop hok h0 _ hlt
      have hnx : xtAt c i = 0 → firstE (xtAt c) (i + 1) = 0 := fun h0 => by simp only [firstE, hok, h0, ↓reduceIte]
      have hd : xtAt c i = xtE c.g c.exts[i] := xtAt_at hlt
      unfold xtE at hd
      have c1 := valid53_c c.g c.exts[i].g c.exts[i].m hc.g hx.g
      have c2 := lrgS_c c.exts[i].g hx.g
      have c3 := injective26_c c.g c.exts[i].g c.exts[i].m hc.g hx.g hx.m
      generalize xtAt c i = E at *
      try (simp [hlt])
      repeat (refine sR ?_; simp [hlt])
      refine Stop.of_d (c1 _ _) ?_
      simp
      try (simp)
      repeat (refine sR ?_; simp)
      by_cases f1 : validM c.g c.exts[i].g c.exts[i].m = 0
      ·rw [if_neg (by simp [f1])] at hd
       simp only [f1]
       refine sC ?_
       simp
       try (simp)
       repeat (refine sR ?_; simp)
       refine Stop.of_d (c2 _ _) ?_
       simp
       cases f2 : lrgB c.exts[i].g
       ·rw [f2, if_neg (by simp)] at hd
        try (simp)
        repeat (refine sR ?_; simp)
        refine sC ?_
        simp
        try (simp)
        repeat (refine sR ?_; simp)
        refine Stop.of_d (c3 _ _) ?_
        simp
        cases f3 : injM c.g c.exts[i].g c.exts[i].m
        ·rw [f3, if_neg (by simp)] at hd
         rw [hR (by rw [hd]; decide), hd] at hN
         try (simp)
         repeat (refine sR ?_; simp)
         refine sC ?_
         simp
         try (simp)
         repeat (refine sR ?_; simp)
         refine sT ?_
         try simp only [AU]
         refine ⟨by simp, sF hbox htok (fun _ h => h) (Nat.le_refl _) ?_⟩
         simp [packA, ← hN]
        ·rw [f3, if_pos rfl] at hd
         try (simp)
         repeat (refine sR ?_; simp)
         refine sC ?_
         simp
         try (simp [hw])
         repeat (refine sR ?_; simp [hw])
         refine sE ?_
         exact ⟨i + 1, ⟨hlt, hnx hd⟩, by omega, Weaks.mk (Nat.le_refl _) rfl (by simp [ToL, lk, lb_at]) (by simp [BoxL, lk])⟩
       ·rw [f2, if_pos rfl] at hd
        rw [hR (by rw [hd]; decide), hd] at hN
        try (simp)
        repeat (refine sR ?_; simp)
        refine sC ?_
        simp
        try (simp)
        repeat (refine sR ?_; simp)
        refine sT ?_
        try simp only [AU]
        refine ⟨by simp, sF hbox htok (fun _ h => h) (Nat.le_refl _) ?_⟩
        simp [packA, ← hN]
      ·rw [if_pos f1] at hd
       have b1 : (validM c.g c.exts[i].g c.exts[i].m != 0) = true := by simp [f1]
       rw [hR (by rw [hd]; exact f1), hd] at hN
       simp only [b1]
       refine sC ?_
       simp
       try (simp)
       repeat (refine sR ?_; simp)
       refine sT ?_
       try simp only [AU]
       refine ⟨by simp, sF hbox htok (fun _ h => h) (Nat.le_refl _) ?_⟩
       simp [packA, ← hN]
     ·refine sX ?_
      simp only [AU, ↓reduceIte]
      have : i = c.exts.length := by omega
      subst this
      rw [hok] at hN
      try (simp)
      repeat (refine sR ?_; simp)
      refine sT ?_
      try simp only [AU]
      refine ⟨by simp, sF hbox htok (fun _ h => h) (Nat.le_refl _) ?_⟩
      simp [packA, ← hN]
    ·rw [if_pos rfl] at hN
     try (simp)
     repeat (refine sR ?_; simp)
     refine sC ?_
     simp
     try (simp)
     repeat (refine sR ?_; simp)
     refine sT ?_
     try simp only [AU]
     refine ⟨by simp, sF hbox htok (fun _ h => h) (Nat.le_refl _) ?_⟩
     simp [packA, ← hN]
   ·have b0 : (E2 != 0) = true := by simp [v0]
    rw [if_pos v0] at hN
    refine sC ?_
    simp [v0, b0]
    try (simp)
    repeat (refine sR ?_; simp)
    refine sT ?_
    try simp only [AU]
    refine ⟨by simp, sF hbox htok (fun _ h => h) (Nat.le_refl _) ?_⟩
    simp [packA, ← hN]
  ·rw [if_pos (by rw [kd]; decide), kd] at hN
   have x1' := xp x1
   refine sB Tryz.func63 Tryz.ntmps63 ?_
   intro hbox htok
   simp only at hbox htok
   apply AL.start
   try (simp)
   repeat (refine sR ?_; simp)
   refine Stop.of_d (h1 _ _) ?_
   simp
   try (simp [k1, x1, x1'])
   repeat (first | (refine sR ?_; simp [k1, x1, x1']) | (refine sC ?_; simp [k1, x1, x1']) | (refine sX ?_; simp only [AU, ↓reduceIte]))
   refine sT ?_
   try simp only [AU]
   refine ⟨by simp, sF hbox htok (fun _ h => h) (Nat.le_refl _) ?_⟩
   simp [packA, ← hN]
  ·rw [if_pos (by rw [kd]; decide), kd] at hN
   refine sB Tryz.func63 Tryz.ntmps63 ?_
   intro hbox htok
   simp only at hbox htok
   apply AL.start
   try (simp)
   repeat (refine sR ?_; simp)
   refine Stop.of_d (h1 _ _) ?_
   simp
   try (simp [k1, x1])
   repeat (first | (refine sR ?_; simp [k1, x1]) | (refine sC ?_; simp [k1, x1]) | (refine sX ?_; simp only [AU, ↓reduceIte]))
   refine sT ?_
   try simp only [AU]
   refine ⟨by simp, sF hbox htok (fun _ h => h) (Nat.le_refl _) ?_⟩
   simp [packA, ← hN]
  ·rw [if_pos (by rw [kd]; decide), kd] at hN
   have x2' : (6 : Int) < c.exts.length := by omega
   refine sB Tryz.func63 Tryz.ntmps63 ?_
   intro hbox htok
   simp only at hbox htok
   apply AL.start
   try (simp)
   repeat (refine sR ?_; simp)
   refine Stop.of_d (h1 _ _) ?_
   simp
   try (simp [k1, x1, x2, x2'])
   repeat (first | (refine sR ?_; simp [k1, x1, x2, x2']) | (refine sC ?_; simp [k1, x1, x2, x2']) | (refine sX ?_; simp only [AU, ↓reduceIte]))
   refine sT ?_
   try simp only [AU]
   refine ⟨by simp, sF hbox htok (fun _ h => h) (Nat.le_refl _) ?_⟩
   simp [packA, ← hN]
  ·rw [if_neg (by rw [kd]; decide)] at hN
   have x2' : ¬ (6 : Int) < c.exts.length := by omega
   refine sB Tryz.func63 Tryz.ntmps63 ?_
   intro hbox htok
   simp only at hbox htok
   apply AL.start
   try (simp)
   repeat (refine sR ?_; simp)
   refine Stop.of_d (h1 _ _) ?_
   simp
   try (simp [k1, x1, x2, x2'])
   repeat (first | (refine sR ?_; simp [k1, x1, x2, x2']) | (refine sC ?_; simp [k1, x1, x2, x2']) | (refine sX ?_; simp only [AU, ↓reduceIte]))
   refine Stop.of_d (h2 _ _) ?_
   simp
   try (simp)
   repeat (refine sR ?_; simp)
   by_cases v0 : E2 = 0
   ·rw [if_neg (by simp [v0])] at hN
    refine sC ?_
    simp [v0]
    try (simp)
    repeat (refine sR ?_; simp)
    refine Stop.of_d (h3 _ _) ?_
    simp
    cases B3
    ·rw [if_neg (by simp)] at hN
     try (simp)
     repeat (refine sR ?_; simp)
     refine sC ?_
     simp
     try (simp)
     repeat (refine sR ?_; simp)
     refine sN ?_
     refine AL.loopT (stSy c nb box tok nt) (fun i => i ≤ c.exts.length ∧ firstE (xtAt c) i = 0) (fun i => c.exts.length - i) 0 ⟨Nat.zero_le _, rfl⟩ (Weaks.mk (Nat.le_refl _) rfl (by simp [ToL, lk, lb_at]) (by simp [BoxL, lk])) ?_
     rintro i S' ⟨hi, hok⟩ hS
     simp only [stSy] at hS
     subst hS
     have hw := sW (i := i) (by omega)
     try (simp)
     repeat (refine sR ?_; simp)
     refine sC ?_
     simp
     refine ⟨fun hlt => ?_, fun hge => ?_⟩
     ·have hx := hc.exts _ (List.getElem_mem hlt)
      have hR : xtAt c i ≠ 0 → firstE (xtAt c) c.exts.length = xtAt c i := fun h0 => firstE_stop hok h0 _ hlt
      have hnx : xtAt c i = 0 → firstE (xtAt c) (i + 1) = 0 := fun h0 => by simp only [firstE, hok, h0, ↓reduceIte]
      have hd : xtAt c i = xtE c.g c.exts[i] := xtAt_at hlt
      unfold xtE at hd
      have c1 := valid53_c c.g c.exts[i].g c.exts[i].m hc.g hx.g
      have c2 := lrgS_c c.exts[i].g hx.g
      have c3 := injective26_c c.g c.exts[i].g c.exts[i].m hc.g hx.g hx.m
      generalize xtAt c i = E at *
      try (simp [hlt])
      repeat (refine sR ?_; simp [hlt])
      refine Stop.of_d (c1 _ _) ?_
      simp
      try (simp)
      repeat (refine sR ?_; simp)
      by_cases f1 : validM c.g c.exts[i].g c.exts[i].m = 0
      ·rw [if_neg (by simp [f1])] at hd
       simp only [f1]
       refine sC ?_
       simp
       try (simp)
       repeat (refine sR ?_; simp)
       refine Stop.of_d (c2 _ _) ?_
       simp
       cases f2 : lrgB c.exts[i].g
       ·rw [f2, if_neg (by simp)] at hd
        try (simp)
        repeat (refine sR ?_; simp)
        refine sC ?_
        simp
        try (simp)
        repeat (refine sR ?_; simp)
        refine Stop.of_d (c3 _ _) ?_
        simp
        cases f3 : injM c.g c.exts[i].g c.exts[i].m
        ·rw [f3, if_neg (by simp)] at hd
         rw [hR (by rw [hd]; decide), hd] at hN
         try (simp)
         repeat (refine sR ?_; simp)
         refine sC ?_
         simp
         try (simp)
         repeat (refine sR ?_; simp)
         refine sT ?_
         try simp only [AU]
         refine ⟨by simp, sF hbox htok (fun _ h => h) (Nat.le_refl _) ?_⟩
         simp [packA, ← hN]
        ·rw [f3, if_pos rfl] at hd
         try (simp)
         repeat (refine sR ?_; simp)
         refine sC ?_
         simp
         try (simp [hw])
         repeat (refine sR ?_; simp [hw])
         refine sE ?_
         exact ⟨i + 1, ⟨hlt, hnx hd⟩, by omega, Weaks.mk (Nat.le_refl _) rfl (by simp [ToL, lk, lb_at]) (by simp [BoxL, lk])⟩
       ·rw [f2, if_pos rfl] at hd
        rw [hR (by rw [hd]; decide), hd] at hN
        try (simp)
        repeat (refine sR ?_; simp)
        refine sC ?_
        simp
        try (simp)
        repeat (refine sR ?_; simp)
        refine sT ?_
        try simp only [AU]
        refine ⟨by simp, sF hbox htok (fun _ h => h) (Nat.le_refl _) ?_⟩
        simp [packA, ← hN]
      ·rw [if_pos f1] at hd
       have b1 : (validM c.g c.exts[i].g c.exts[i].m != 0) = true := by simp [f1]
       rw [hR (by rw [hd]; exact f1), hd] at hN
       simp only [b1]
       refine sC ?_
       simp
       try (simp)
       repeat (refine sR ?_; simp)
       refine sT ?_
       try simp only [AU]
       refine ⟨by simp, sF hbox htok (fun _ h => h) (Nat.le_refl _) ?_⟩
       simp [packA, ← hN]
     ·refine sX ?_
      simp only [AU, ↓reduceIte]
      have : i = c.exts.length := by omega
      subst this
      rw [hok] at hN
      try (simp)
      repeat (refine sR ?_; simp)
      refine sT ?_
      try simp only [AU]
      refine ⟨by simp, sF hbox htok (fun _ h => h) (Nat.le_refl _) ?_⟩
      simp [packA, ← hN]
    ·rw [if_pos rfl] at hN
     try (simp)
     repeat (refine sR ?_; simp)
     refine sC ?_
     simp
     try (simp)
     repeat (refine sR ?_; simp)
     refine sT ?_
     try simp only [AU]
     refine ⟨by simp, sF hbox htok (fun _ h => h) (Nat.le_refl _) ?_⟩
     simp [packA, ← hN]
   ·have b0 : (E2 != 0) = true := by simp [v0]
    rw [if_pos v0] at hN
    refine sC ?_
    simp [v0, b0]
    try (simp)
    repeat (refine sR ?_; simp)
    refine sT ?_
    try simp only [AU]
    refine ⟨by simp, sF hbox htok (fun _ h => h) (Nat.le_refl _) ?_⟩
    simp [packA, ← hN]
  ·rw [if_pos (by rw [kd]; decide), kd] at hN
   have b1 : (c.kind == 1) = false := by simp [k1]
   have b2 : (c.kind == 2) = false := by simp [k2]
   have b3 : (c.kind != 1) = true := by simp [k1]
   have b4 : (c.kind != 2) = true := by simp [k2]
   refine sB Tryz.func63 Tryz.ntmps63 ?_
   intro hbox htok
   simp only at hbox htok
   apply AL.start
   try (simp)
   repeat (refine sR ?_; simp)
   refine Stop.of_d (h1 _ _) ?_
   simp
   try (simp [k1, k2, b1, b2, b3, b4])
   repeat (first | (refine sR ?_; simp [k1, k2, b1, b2, b3, b4]) | (refine sC ?_; simp [k1, k2, b1, b2, b3, b4]) | (refine sX ?_; simp only [AU, ↓reduceIte]))
   refine sT ?_
   try simp only [AU]
   refine ⟨by simp, sF hbox htok (fun _ h => h) (Nat.le_refl _) ?_⟩
   simp [packA, ← hN]
end Go.AM
namespace Go.AM
open Go Go.Proofs
def belR (t : Ty) (a : Int) : List Int × Int := if givE t [a] ≠ 0 then ([], givE t [a]) else (belK t a t.nodes.length, 0)
theorem givE_leaf {t : Ty} (h : tyE t = 0) {a : Int} (h0 : 0 ≤ a) : givE t [a] = if (t.nodes.length : Int) ≤ a then 6 else 0 := by
 unfold givE
 rw [if_pos h]
 by_cases h1 : (t.nodes.length : Int) ≤ a
 ·have : ¬ a < t.nodes.length := by omega
  simp [anyB, insB, h1, this]
 ·have : a < t.nodes.length := by omega
  simp [anyB, insB, h1, this, h0]
def stBw (t : Ty) (a : Int) (nb : Nat) (box : Bxs) (x : Acc) : AState :=
 ⟨tl [(19, I x.i), (18, I t.nodes.length), (7, .osl 1 (rI (belK t a x.i)) x.own), (1, I a), (2, .ptr (nb + 2) 0 0)], lb nb box [(2, [[.d (nts t.nodes), .d (ets t.edges)]])], x.tok, x.nt⟩
theorem below_c (t : Ty) (ht : t.Fit) (a : Int) (tok : Tks) (nt : Nat) : DCall Tryz.prog 304 [t.av, I a] tok nt (.tup [.d (ints (belR t a).1), I (belR t a).2]) tok nt := by
 intro box nb
 have htn := ht.n
 have h1 := given_c t ht [a] (by simp)
 have hin := @givE_in t [a]
 obtain ⟨N, hN⟩ : ∃ N, belR t a = N := ⟨_, rfl⟩
 rw [hN]
 unfold belR at hN
 generalize givE t [a] = E at *
 refine sB Tryz.func304 Tryz.ntmps304 ?_
 intro hbox htok
 simp only at hbox htok
 apply AL.start
 try (simp)
 repeat (refine sR ?_; simp)
 refine Stop.data ?_
 refine Stop.of_d (h1 _ _) ?_
 simp
 try (simp)
 repeat (refine sR ?_; simp)
 by_cases e1 : E = 0
 ·rw [if_neg (by simp [e1])] at hN
  have hp := tyE_par (hin e1).1
  refine sC ?_
  simp [e1]
  try (simp)
  repeat (refine sR ?_; simp)
  refine sN ?_
  refine AL.loopT (stBw t a nb box) (fun x => x.i ≤ t.nodes.length ∧ TK tok nt x.tok x.nt [x.own]) (fun x => t.nodes.length - x.i) ⟨0, .full, tok, nt⟩ ⟨Nat.zero_le _, (TK.start htok).full⟩ (Weaks.mk (Nat.le_refl _) rfl (by simp [ToL, lk, belK_zero]) (by simp [BoxL, lk])) ?_
  rintro ⟨i, own, tok', nt'⟩ S ⟨hi, htk⟩ hS
  simp only [stBw] at hS hi htk
  subst hS
  have hw := sW (i := i) (by omega)
  have hlen := belK_len t a i
  have hsc := belK_succ t a i
  try (simp)
  repeat (refine sR ?_; simp)
  refine sC ?_
  simp
  refine ⟨fun hlt => ?_, fun hge => ?_⟩
  ·have hc := is_c t ht i a (by omega) (by omega) hp
   generalize belK t a i = L at *
   try (simp [hlt])
   repeat (refine sR ?_; simp [hlt])
   refine Stop.of_d (hc _ _) ?_
   simp
   cases e2 : isB t i a
   ·rw [e2, if_neg (by simp)] at hsc
    try (simp)
    repeat (refine sR ?_; simp)
    refine sC ?_
    simp
    try (simp [hw])
    repeat (refine sR ?_; simp [hw])
    refine sE ?_
    exact ⟨⟨i + 1, own, tok', nt'⟩, ⟨hlt, htk⟩, by simp only; omega, Weaks.mk htk.le rfl (by simp [ToL, lk, hsc]) (by simp [BoxL, lk])⟩
   ·rw [e2, if_pos rfl] at hsc
    try (simp)
    repeat (refine sR ?_; simp)
    refine sC ?_
    simp
    try (simp)
    repeat (refine sR ?_; simp)
    refine ⟨⟨by omega, htk.live⟩, ?_⟩
    try (simp [hw])
    repeat (refine sR ?_; simp [hw])
    refine sE ?_
    exact ⟨⟨i + 1, _, _, _⟩, ⟨hlt, htk.app⟩, by simp only; omega, Weaks.mk htk.app.le rfl (by simp [ToL, lk, hsc]) (by simp [BoxL, lk])⟩
  ·refine sX ?_
   simp only [AU, ↓reduceIte]
   have : i = t.nodes.length := by omega
   subst this
   try (simp)
   repeat (refine sR ?_; simp)
   refine sT ?_
   try simp only [AU]
   refine ⟨by simp, sF hbox htok htk.old htk.le ?_⟩
   simp [packA, ← hN]
 ·rw [if_pos e1] at hN
  have b1 : (E != 0) = true := by simp [e1]
  refine sC ?_
  simp [b1]
  try (simp)
  repeat (refine sR ?_; simp)
  refine sT ?_
  try simp only [AU]
  refine ⟨by simp, sF hbox htok (fun _ h => h) (Nat.le_refl _) ?_⟩
  simp [packA, ← hN, ints]
end Go.AM
namespace Go.AM
open Go Go.Proofs
abbrev blB (l : List Bool) : D := .sl 1 (l.map fun b => [D.raw (.bool b)])
def isRow (t : Ty) (a : Nat) : List Bool := (List.range t.nodes.length).map fun (b : Nat) => isB t (b : Int) (a : Int)
def isTb (t : Ty) : List (List Bool) := (List.range t.nodes.length).map (isRow t)
def isD (t : Ty) : D := .sl 1 ((isTb t).map fun r => [blB r])
def ptD (nl : Bool) (l : List Int) : D := if nl = true then .raw nilV else ints l
structure Sr.Nl (s : Sr) (nl : Bool) : Prop where
 n : nl = true → ∀ x ∈ s.pt.nodes, x = -1
 e : nl = true → ∀ x ∈ s.pt.edges, x = -1
def Sr.rowD (s : Sr) (nl : Bool) (fm : Nat) (N E : List Int) (out : List Mo) : List D :=
 [ints s.p.nodes, AM.edges s.p.edges, ints s.g.nodes, AM.edges s.g.edges, isD s.t, ptD nl s.pt.nodes, ptD nl s.pt.edges, .raw (.bool s.inj), .raw (.int .i64 fm), ints N, ints E, .sl 2 (mosR out)]
abbrev Sr.rowF (s : Sr) (nl : Bool) (fm : Nat) (N : List Int) (a : Nat) (E : List Int) (b : Nat) (out : List Mo) (own : Own) : List AV :=
 [.d (ints s.p.nodes), .d (AM.edges s.p.edges), .d (ints s.g.nodes), .d (AM.edges s.g.edges), .d (isD s.t), .d (ptD nl s.pt.nodes), .d (ptD nl s.pt.edges), B s.inj, I fm, .stk a 1 (rI N), .stk b 1 (rI E), .osl 2 (mosR out) own]
theorem Sr.row_cds {s : Sr} {nl : Bool} {fm : Nat} {N : List Int} {a : Nat} {E : List Int} {b : Nat} {out : List Mo} {own : Own} {tok : Nat → Bool} (ha : tok a = true) (hb : tok b = true) : CellDs tok (s.rowF nl fm N a E b out own) (s.rowD nl fm N E out) :=
 ⟨.d, .d, .d, .d, .d, .d, .d, .d, .d, .stk ha, .stk hb, .osl, trivial⟩
def gvI (nl : Bool) (l : List Int) (i : Nat) : Int := if nl = true then -1 else l.getD i 0
theorem gvB_gvI {nl : Bool} {l : List Int} {i : Nat} (h : nl = true → ∀ x ∈ l, x = -1) (hi : i < l.length) (k : Nat) : gvB l i k = if 0 ≤ gvI nl l i then decide (gvI nl l i = (k : Int)) else true := by
 unfold gvB gvI
 cases nl
 ·simp
 ·have : l.getD i 0 = -1 := by
   have := h rfl _ (List.getElem_mem hi)
   simp [hi, this]
  rw [this]
  simp
theorem givenF_c (nl : Bool) (l : List Int) (i : Nat) (hi : i < l.length) (hl : l.length ≤ 1000000) (tok : Tks) (nt : Nat) : DCall Tryz.prog 305 [.d (ptD nl l), I i] tok nt (I (gvI nl l i)) tok nt := by
 intro box nb
 cases nl
 ·refine sB Tryz.func305 Tryz.ntmps305 ?_
  intro hbox htok
  simp only at hbox htok
  apply AL.start
  simp only [ptD, Bool.false_eq_true, if_false]
  try (simp [hi])
  repeat (refine sR ?_; simp [hi])
  refine ⟨?_, fun h => by rw [h] at hi; simp at hi⟩
  try (simp [hi])
  repeat (first | (refine sR ?_; simp [hi]) | (refine sC ?_; simp [hi]) | (refine sX ?_; simp only [AU, ↓reduceIte]))
  refine sT ?_
  try simp only [AU]
  refine ⟨by simp, sF hbox htok (fun _ h => h) (Nat.le_refl _) ?_⟩
  simp [packA, gvI, hi]
 ·refine sB Tryz.func305 Tryz.ntmps305 ?_
  intro hbox htok
  simp only at hbox htok
  apply AL.start
  simp only [ptD, if_true]
  try (simp)
  repeat (first | (refine sR ?_; simp) | (refine sC ?_; simp) | (refine sX ?_; simp only [AU, ↓reduceIte]))
  refine sT ?_
  try simp only [AU]
  refine ⟨by simp, sF hbox htok (fun _ h => h) (Nat.le_refl _) ?_⟩
  simp [packA, gvI]
theorem E.dec3 (e : E) (a b c : Int) : decide (e = ⟨a, b, c⟩) = (decide (e.ty = a) && (decide (e.fr = b) && decide (e.to = c))) := by
 cases e
 simp
theorem fitsF_c (s : Sr) (h : s.Ok) (nl : Bool) (hnl : s.Nl nl) (fm : Nat) (N E : List Int) (out : List Mo) (i k : Nat) (hi : i < s.p.edges.length) (hk : k < s.g.edges.length)
  (hf : (s.p.edges.getD i default).fr < N.length) (ht : (s.p.edges.getD i default).to < N.length) (tok : Tks) (nt : Nat) :
  DCall Tryz.prog 307 [.cptr (s.rowD nl fm N E out) 0, I i, I k] tok nt (B (s.fitK N i k)) tok nt := by
 intro box nb
 have hpe := h.p.e
 have hpl : i < s.pt.edges.length := by rw [h.pe]; exact hi
 have hg := givenF_c nl s.pt.edges i hpl (by rw [h.pe]; omega)
 have hgv := gvB_gvI hnl.e hpl k
 obtain ⟨x1, x2, x3, x4⟩ := h.vp _ (List.getElem_mem hi)
 have hgd : s.p.edges.getD i default = s.p.edges[i] := by simp [hi]
 rw [hgd] at hf ht
 have y1 : s.p.edges[i].fr.toNat < N.length := by omega
 have y2 : s.p.edges[i].to.toNat < N.length := by omega
 have hwx : wantX s.p N i = ⟨s.p.edges[i].ty, N[s.p.edges[i].fr.toNat], N[s.p.edges[i].to.toNat]⟩ := by simp [wantX, hi, y1, y2]
 have hgi : s.g.edges.getD k default = s.g.edges[k] := by simp [hk]
 obtain ⟨R, hR⟩ : ∃ R, s.fitK N i k = R := ⟨_, rfl⟩
 rw [hR]
 unfold Sr.fitK at hR
 rw [hgv, hwx, hgi] at hR
 generalize gvI nl s.pt.edges i = W at *
 refine sB Tryz.func307 Tryz.ntmps307 ?_
 intro hbox htok
 simp only at hbox htok
 apply AL.start
 try (simp [Sr.rowD, hi])
 repeat (refine sR ?_; simp [Sr.rowD, hi])
 refine Stop.of_d (hg _ _) ?_
 simp
 by_cases p01 : 0 ≤ W ∧ W ≠ (k : Int)
 ·obtain ⟨p0, p1⟩ := p01
  have b1 : (W != (k : Int)) = true := by simp [p1]
  rw [if_pos p0, if_neg (by simp [p1])] at hR
  try (simp [p0, b1])
  repeat (first | (refine sR ?_; simp [p0, b1]) | (refine sC ?_; simp [p0, b1]) | (refine sX ?_; simp only [AU, ↓reduceIte]))
  refine sT ?_
  try simp only [AU]
  refine ⟨by simp, sF hbox htok (fun _ h => h) (Nat.le_refl _) ?_⟩
  simp [packA, ← hR]
 ·have hW : (if 0 ≤ W then decide (W = (k : Int)) else true) = true := by
   by_cases p0 : 0 ≤ W
   ·rw [if_pos p0]
    by_cases p1 : W = (k : Int)
    ·simp [p1]
    ·exact absurd ⟨p0, p1⟩ p01
   ·rw [if_neg p0]
  rw [if_pos hW, _root_.Go.AM.E.dec3] at hR
  have hst : ∀ Q, (0 ≤ W → (W != (k : Int)) = false → Q) → (¬ 0 ≤ W → Q) → Q := by
   intro Q h1 h2
   by_cases p0 : 0 ≤ W
   ·refine h1 p0 ?_
    by_cases p1 : W = (k : Int)
    ·simp [p1]
    ·exact absurd ⟨p0, p1⟩ p01
   ·exact h2 p0
  refine hst _ (fun p0 b1 => ?_) (fun p0 => ?_)
  ·try (simp [p0, b1, hk, x1, x3, y1, y2, hf, ht, Sr.rowD])
   repeat (first | (refine sR ?_; simp [p0, b1, hk, x1, x3, y1, y2, hf, ht, Sr.rowD]) | (refine sC ?_; simp [p0, b1, hk, x1, x3, y1, y2, hf, ht, Sr.rowD]) | (refine sX ?_; simp only [AU, ↓reduceIte]))
   refine sT ?_
   try simp only [AU]
   refine ⟨by simp, sF hbox htok (fun _ h => h) (Nat.le_refl _) ?_⟩
   simp [packA, ← hR]
  ·try (simp [p0, hk, x1, x3, y1, y2, hf, ht, Sr.rowD])
   repeat (first | (refine sR ?_; simp [p0, hk, x1, x3, y1, y2, hf, ht, Sr.rowD]) | (refine sC ?_; simp [p0, hk, x1, x3, y1, y2, hf, ht, Sr.rowD]) | (refine sX ?_; simp only [AU, ↓reduceIte]))
   refine sT ?_
   try simp only [AU]
   refine ⟨by simp, sF hbox htok (fun _ h => h) (Nat.le_refl _) ?_⟩
   simp [packA, ← hR]
def stPo1 (s : Sr) (nl : Bool) (fm : Nat) (N E : List Int) (out : List Mo) (nb : Nat) (box : Bxs) (tok : Tks) (nt : Nat) (i : Nat) : AState :=
 ⟨tl [(20, I i), (19, I s.p.edges.length), (18, .d (AM.edges s.p.edges)), (3, I ((N.length : Int) - 1)), (0, .cptr (s.rowD nl fm N E out) 0)], lb nb box [], tok, nt⟩
def stPo2 (s : Sr) (nl : Bool) (fm : Nat) (N E : List Int) (out : List Mo) (nb : Nat) (box : Bxs) (tok : Tks) (nt : Nat) (i : Nat) (q : Nat) : AState :=
 ⟨tl [(38, I q), (37, I s.g.edges.length), (6, B false), (5, .ptr (nb + 5) 0 0), (4, I i), (20, I i), (19, I s.p.edges.length), (18, .d (AM.edges s.p.edges)), (3, I ((N.length : Int) - 1)), (0, .cptr (s.rowD nl fm N E out) 0)],
  lb nb box [(5, [[I (s.p.edges.getD i default).ty, I (s.p.edges.getD i default).fr, I (s.p.edges.getD i default).to]])], tok, nt⟩
theorem possibleF_c (s : Sr) (h : s.Ok) (nl : Bool) (hnl : s.Nl nl) (fm : Nat) (N E : List Int) (hN : N.length ≤ s.p.nodes.length) (out : List Mo) (tok : Tks) (nt : Nat) :
  DCall Tryz.prog 306 [.cptr (s.rowD nl fm N E out) 0] tok nt (B (s.pos N)) tok nt := by
 intro box nb
 have hpe := h.p.e
 have hpn := h.p.n
 have hge := h.g.e
 have hw0 : IntKind.i64.wrap (↑N.length - 1) = (N.length : Int) - 1 := wrap_in (by omega) (by omega)
 have hfit := fun i k hi hk hf ht => fitsF_c s h nl hnl fm N E out i k hi hk hf ht
 obtain ⟨R, hR⟩ : ∃ R, s.pos N = R := ⟨_, rfl⟩
 rw [hR]
 refine sB Tryz.func306 Tryz.ntmps306 ?_
 intro hbox htok
 simp only at hbox htok
 apply AL.start
 try (simp [Sr.rowD, hw0])
 repeat (refine sR ?_; simp [Sr.rowD, hw0])
 refine sN ?_
 refine AL.loopT (stPo1 s nl fm N E out nb box tok nt) (fun i => i ≤ s.p.edges.length ∧ ∀ j, j < i → s.posE N j = true) (fun i => s.p.edges.length - i) 0 ⟨Nat.zero_le _, fun j hj => absurd hj (Nat.not_lt_zero _)⟩ (Weaks.mk (Nat.le_refl _) rfl (by simp [ToL, lk, Sr.rowD]) (by simp [BoxL, lk])) ?_
 rintro i S' ⟨hi, hall⟩ hS
 simp only [stPo1] at hS
 subst hS
 have hw := sW (i := i) (by omega)
 by_cases hlt : i < s.p.edges.length
 ·have hgd : s.p.edges.getD i default = s.p.edges[i] := by simp [hlt]
  have hfit := fun k hk => hfit i k hlt hk
  obtain ⟨x1, x2, x3, x4⟩ := h.vp _ (List.getElem_mem hlt)
  by_cases hmx : max s.p.edges[i].fr s.p.edges[i].to = (N.length : Int) - 1
  ·have b1 : (max s.p.edges[i].fr s.p.edges[i].to != (N.length : Int) - 1) = false := by simp [hmx]
   have hpe0 : s.posE N i = (List.range s.g.edges.length).any (s.fitK N i) := by unfold Sr.posE; rw [hgd, if_pos hmx]
   have hfit := fun k hk => hfit k hk (by rw [hgd]; omega) (by rw [hgd]; omega)
   try (simp [hlt, b1, Sr.rowD])
   repeat (first | (refine sR ?_; simp [hlt, b1, Sr.rowD]) | (refine sC ?_; simp [hlt, b1, Sr.rowD]) | (refine sX ?_; simp only [AU, ↓reduceIte]))
   refine sN ?_
   refine AL.loopT (stPo2 s nl fm N E out nb box tok nt i) (fun q => q ≤ s.g.edges.length ∧ ∀ j, j < q → s.fitK N i j = false) (fun q => s.g.edges.length - q) 0 ⟨Nat.zero_le _, fun j hj => absurd hj (Nat.not_lt_zero _)⟩ (Weaks.mk (Nat.le_refl _) rfl (by simp [ToL, lk, hlt, Sr.rowD]) (by simp [BoxL, lk, hlt])) ?_
   rintro q S' ⟨hq0, hno⟩ hS
   simp only [stPo2] at hS
   subst hS
   have hwq := sW (i := q) (by omega)
   by_cases hq : q < s.g.edges.length
   ·have hc := hfit q hq
    try (simp [hq])
    repeat (first | (refine sR ?_; simp [hq]) | (refine sC ?_; simp [hq]) | (refine sX ?_; simp only [AU, ↓reduceIte]))
    refine Stop.of_d (hc _ _) ?_
    cases e : s.fitK N i q
    ·try (simp [hwq])
     repeat (first | (refine sR ?_; simp [hwq]) | (refine sC ?_; simp [hwq]) | (refine sX ?_; simp only [AU, ↓reduceIte]))
     refine sE ?_
     exact ⟨q + 1, ⟨hq, fun j hj => (Nat.lt_or_ge j q).elim (hno j) fun hh => by rw [show j = q by omega]; exact e⟩, by omega, Weaks.mk (Nat.le_refl _) rfl (by simp [ToL, lk, hlt]) (by simp [BoxL, lk, hlt])⟩
    ·have hp : s.posE N i = true := by
      rw [hpe0, List.any_eq_true]
      exact ⟨q, List.mem_range.2 hq, e⟩
     try (simp [hw])
     repeat (first | (refine sR ?_; simp [hw]) | (refine sC ?_; simp [hw]) | (refine sX ?_; simp only [AU, ↓reduceIte]))
     refine sE ?_
     exact ⟨i + 1, ⟨hlt, fun j hj => (Nat.lt_or_ge j i).elim (hall j) fun hh => by rw [show j = i by omega]; exact hp⟩, by omega, Weaks.mk (Nat.le_refl _) rfl (by simp [ToL, lk]) (by simp [BoxL, lk])⟩
   ·have : q = s.g.edges.length := by omega
    subst this
    have hp : s.posE N i = false := by
     rw [hpe0, List.any_eq_false]
     exact fun j hj => by simp [hno j (List.mem_range.1 hj)]
    rw [Sr.pos_false hlt hp] at hR
    try (simp)
    repeat (first | (refine sR ?_; simp) | (refine sC ?_; simp) | (refine sX ?_; simp only [AU, ↓reduceIte]))
    refine sT ?_
    try simp only [AU]
    refine ⟨by simp, sF hbox htok (fun _ h => h) (Nat.le_refl _) ?_⟩
    simp [packA, ← hR]
  ·have b1 : (max s.p.edges[i].fr s.p.edges[i].to != (N.length : Int) - 1) = true := by simp [hmx]
   have hp : s.posE N i = true := by unfold Sr.posE; rw [hgd, if_neg hmx]
   try (simp [hlt, b1, hw])
   repeat (first | (refine sR ?_; simp [hlt, b1, hw]) | (refine sC ?_; simp [hlt, b1, hw]) | (refine sX ?_; simp only [AU, ↓reduceIte]))
   refine sE ?_
   exact ⟨i + 1, ⟨hlt, fun j hj => (Nat.lt_or_ge j i).elim (hall j) fun hh => by rw [show j = i by omega]; exact hp⟩, by omega, Weaks.mk (Nat.le_refl _) rfl (by simp [ToL, lk]) (by simp [BoxL, lk])⟩
 ·have : i = s.p.edges.length := by omega
  subst this
  rw [Sr.pos_true hall] at hR
  try (simp)
  repeat (first | (refine sR ?_; simp) | (refine sC ?_; simp) | (refine sX ?_; simp only [AU, ↓reduceIte]))
  refine sT ?_
  try simp only [AU]
  refine ⟨by simp, sF hbox htok (fun _ h => h) (Nat.le_refl _) ?_⟩
  simp [packA, ← hR]
end Go.AM
namespace Go.AM
open Go Go.Proofs
def QFd (s : Sr) (nl : Bool) (fm : Nat) (box : Bxs) (nb k : Nat) (mtok : Tks) (nt0 nt : Nat) (N E : List Int) (R : List Mo) (v : AV) (m : AMem) : Prop :=
 v = .tup [] ∧ ∃ a b own tok nt', m = ⟨upd box k (some [s.rowF nl fm N a E b R own]), nb, tok, nt'⟩ ∧ TK mtok nt0 tok nt' [.tok a, .tok b, own] ∧ nt ≤ nt'
theorem outFd {s : Sr} {nl : Bool} {fm : Nat} {N E : List Int} {a b : Nat} {out : List Mo} {own : Own} {box : Bxs} {k base : Nat} {p q : Nat → Prop} (hq : q = fun _ => True) : ∀ k' rows, k' < base → (upd box k (some [s.rowF nl fm N a E b out own])) k' = some rows → box k' = some rows ∨ ∀ r ∈ rows, ∀ x ∈ r, OkIn p q x := by
 subst hq
 intro k' rows hk' hr
 by_cases e : k' = k
 ·subst e
  rw [upd_same] at hr
  cases hr
  exact .inr (by simp)
 ·rw [upd_other _ _ e] at hr
  exact .inl hr
theorem flat_ints {c : Addr → Option Value} {ps : Addr → Prop} {xs : List Int} {vs : List Value} (h : FlatV c ps 1 (rI xs) vs) : ∀ j, j < xs.length → vs[j]? = some (.int .i64 (xs.getD j 0)) := by
 intro j hj
 have hj' : j < (rI xs).length := by simpa using hj
 obtain ⟨u, h1, h2⟩ := h.read j 0 hj' (by simp)
 rw [Nat.mul_one, Nat.add_zero] at h1
 have e : (rI xs)[j][0]'(by simp) = D.raw (.int .i64 xs[j]) := by simp
 rw [e] at h2
 cases h2
 rw [h1]
 simp [hj]
theorem cloneS_c (xs : List Int) (hx : xs.length ≤ 1000000) (t : Nat) (tok : Tks) (nt : Nat) (ht : tok t = true) : DCall Tryz.prog 126 [.stk t 1 (rI xs)] tok nt (.d (ints xs)) tok nt := by
 intro box nb
 refine ⟨Enters.mk Tryz.func126 rfl (by kernel_rfl), fun G w vals hm hr => ?_⟩
 obtain ⟨hlen, hrv⟩ := hr
 match vals, hlen with
 | [v], _ =>
  have h0 := hrv 0 (by simp) (by simp)
  simp only [List.getElem_cons_zero] at h0
  cases h0 with | stk h0 =>
  obtain ⟨h1, A, cap, rfl, hcap, hmax, h2⟩ := h0
  obtain ⟨_, x, hx2⟩ := hm.toks t ht
  have h3 := h2 x hx2
  have hl : (rI xs).length = xs.length := by simp
  rw [hl] at hcap ⊢
  cases A with
  | none =>
   have he : xs = [] := by
    cases x with
    | none => exact List.length_eq_zero_iff.1 (by simp only at h3; omega)
    | some g => cases h3.1
   subst he
   refine (Tryz.slices_Clone_int_nil _ cap w).mono ?_
   rintro e w' ⟨rfl, rfl⟩
   exact ⟨_, _, _, G, rfl, ⟨rfl, rfl⟩, rfl, hm, .d (.sl (es := []) (fun _ _ => default) (Nat.le_refl _) (by decide) (by simp) (by simp) (by simp) (by simp)), Le.refl _ _, fun k hk => ⟨hk, rfl⟩⟩
  | some a =>
   by_cases e : xs = []
   ·subst e
    refine (Tryz.slices_Clone_int_zero a cap w).mono ?_
    rintro e w' ⟨v, rfl, hown, hnn, hb⟩
    exact ⟨v, _, _, G, rfl, ⟨rfl, rfl⟩, rfl, relM_below hm hb, .d (rvd_owns hm hown), le_below hm hb, fun k hk => ⟨hk, rfl⟩⟩
   ·have hne : xs.length ≠ 0 := fun h => e (List.length_eq_zero_iff.1 h)
    cases x with
    | none => simp only at h3; omega
    | some g =>
     obtain ⟨hA, vs, sp, et, hg, hh, hln, hfl, _⟩ := h3
     cases hA
     have hc : ∀ j, j < xs.length → w.cell? ⟨g, 0 + j, none⟩ = some (.int .i64 (xs.getD j 0)) := by
      intro j hj
      have := flat_ints hfl j hj
      rw [Nat.zero_add, cell_of_row w g _ _ et (0, 0) hh]
      have hj2 : j < vs.length := by rw [hfl.len]; simpa using hj
      simp only [List.getElem?_toArray, List.getElem?_append_left hj2]
      exact this
     have := Tryz.slices_Clone_int g 0 xs.length cap xs w (Nat.le_refl _) (by omega) hc
     rw [List.take_length] at this
     refine this.mono ?_
     rintro e w' ⟨v, rfl, hown, hnn, hb⟩
     exact ⟨v, _, _, G, rfl, ⟨rfl, rfl⟩, rfl, relM_below hm hb, .d (rvd_owns hm hown), le_below hm hb, fun k hk => ⟨hk, rfl⟩⟩
structure AccK where
 i : Nat
 out : List Mo
 a : Nat
 b : Nat
 own : Own
 tok : Nat → Bool
 nt : Nat
def Sr.stEp (s : Sr) (fm : Nat) (N E : List Int) (n : Nat) (out : List Mo) (k : Nat) : List Mo := if s.okE N E k = true then fndE fm (s.okE N) s.g.edges.length N n (E ++ [(k : Int)]) out else out
def stFdE (s : Sr) (nl : Bool) (fm : Nat) (N E : List Int) (nb k : Nat) (box : Bxs) (x : AccK) : AState :=
 ⟨tl [(164, I x.i), (163, I s.g.edges.length), (162, .d (AM.edges s.g.edges)), (6, I E.length), (0, .ptr k 0 0)], lb nb (upd box k (some [s.rowF nl fm N x.a E x.b x.out x.own])) [], x.tok, x.nt⟩
theorem rI_cut (E : List Int) (v : Int) : List.take E.length (rI (E ++ [v])) = rI E := by
 unfold rI
 rw [List.map_append, List.take_append_of_le_length (by simp), List.take_of_length_le (by simp)]
set_option maxRecDepth 100000 in
theorem findE_c (s : Sr) (h : s.Ok) (nl : Bool) (hnl : s.Nl nl) (fm : Nat) (hfm : fm ≤ 1000000) (N : List Int) (hN : N.length = s.p.nodes.length) (mtok : Tks) (nt0 : Nat) : ∀ (n : Nat) (E : List Int) (out : List Mo) (a b : Nat) (own : Own) (box : Bxs) (nb k : Nat) (tok : Tks) (nt : Nat), E.length + n = s.p.edges.length → out.length ≤ fm →
  box k = some [s.rowF nl fm N a E b out own] → TK mtok nt0 tok nt [.tok a, .tok b, own] → ACalls Tryz.prog 286 [.ptr k 0 0] ⟨box, nb, tok, nt⟩ (QFd s nl fm box nb k mtok nt0 nt N E (fndE fm (s.okE N) s.g.edges.length N n E out)) := by
 have hpn := h.p.n
 have hpe := h.p.e
 have hgn := h.g.n
 have hge := h.g.e
 intro n
 induction n with
 | zero =>
  intro E out a b own box nb k tok nt hE ho hk htk
  have hself : box = upd box k (some [s.rowF nl fm N a E b out own]) := (upd_self box k _ hk).symm
  refine sB Tryz.func286 Tryz.ntmps286 ?_
  intro hbox htok
  simp only at hbox htok
  apply AL.start
  have hkn := key_lt hbox hk
  have hEl : E.length = s.p.edges.length := by omega
  try (simp [lb_out hkn, hk])
  repeat (refine sR ?_; simp [lb_out hkn, hk])
  by_cases hbig : out.length = fm
  ·have b1 : ((out.length : Int) == (fm : Int)) = true := by simp [hbig]
   try (simp [lb_out hkn, hk, b1])
   repeat (first | (refine sR ?_; simp [lb_out hkn, hk, b1]) | (refine sC ?_; simp [lb_out hkn, hk, b1]) | (refine sX ?_; simp only [AU, ↓reduceIte]))
   refine sN ?_
   refine sE ?_
   refine ⟨by simp, (Fin.own (vs := []) (av := .tup []) (by simp [resAs, resA]) hbox rfl (Nat.le_refl _) (by simp [packA])).mono fun v m hq => ⟨hq.1, a, b, own, tok, nt, ?_, htk, Nat.le_refl _⟩⟩
   rw [hq.2, fndE, if_pos hbig, ← hself]
  ·have b1 : ((out.length : Int) == (fm : Int)) = false := by simp; omega
   have hta : tok a = true := htk.live
   have htb : tok b = true := htk.swap.live
   try (simp [lb_out hkn, hk, b1, hN, hEl])
   repeat (first | (refine sR ?_; simp [lb_out hkn, hk, b1, hN, hEl]) | (refine sC ?_; simp [lb_out hkn, hk, b1, hN, hEl]) | (refine sX ?_; simp only [AU, ↓reduceIte]))
   refine Stop.of_d (cloneS_c N (by omega) a _ _ hta) ?_
   simp [lb_out hkn, hk]
   refine Stop.of_d (cloneS_c E (by omega) b _ _ htb) ?_
   simp [lb_out hkn, hk]
   refine ⟨⟨by omega, htk.pick3.live⟩, ?_⟩
   simp only [upd_lb_out hkn]
   refine sN ?_
   refine sE ?_
   have htk2 := htk.pick3.app.put3
   refine ⟨by simp, (Fin.gen (vs := []) (av := .tup []) (tok' := upd (own.kill tok) nt true) (nt' := nt + 1) (by simp [resAs, resA]) ?_ (by omega) (Nat.le_refl _) (fun t h => ⟨h, .inl rfl⟩) ?_ (by simp [packA])).mono fun v m hq => ⟨hq.1, a, b, .tok nt, _, nt + 1, ?_, htk2, by omega⟩⟩
   ·rw [← upd_lb_out hkn, hbox]
   ·intro k' rows hk' hr
    by_cases e : k' = k
    ·subst e
     rw [upd_same] at hr
     cases hr
     exact .inr (by simp)
    ·rw [upd_other _ _ e] at hr
     exact .inl hr
   ·rw [hq.2, fndE, if_neg hbig]
    simp [Sr.rowF]
 | succ n ih =>
  intro E out a b own box nb k tok nt hE ho hk htk
  have hself : box = upd box k (some [s.rowF nl fm N a E b out own]) := (upd_self box k _ hk).symm
  have hlt : E.length < s.p.edges.length := by omega
  refine sB Tryz.func286 Tryz.ntmps286 ?_
  intro hbox htok
  simp only at hbox htok
  apply AL.start
  have hkn := key_lt hbox hk
  try (simp [lb_out hkn, hk])
  repeat (refine sR ?_; simp [lb_out hkn, hk])
  by_cases hbig : out.length = fm
  ·have b1 : ((out.length : Int) == (fm : Int)) = true := by simp [hbig]
   try (simp [lb_out hkn, hk, b1])
   repeat (first | (refine sR ?_; simp [lb_out hkn, hk, b1]) | (refine sC ?_; simp [lb_out hkn, hk, b1]) | (refine sX ?_; simp only [AU, ↓reduceIte]))
   refine sN ?_
   refine sE ?_
   refine ⟨by simp, (Fin.own (vs := []) (av := .tup []) (by simp [resAs, resA]) hbox rfl (Nat.le_refl _) (by simp [packA])).mono fun v m hq => ⟨hq.1, a, b, own, tok, nt, ?_, htk, Nat.le_refl _⟩⟩
   rw [hq.2, fndE, if_pos hbig, ← hself]
  ·have b1 : ((out.length : Int) == (fm : Int)) = false := by simp; omega
   try (simp [lb_out hkn, hk, b1, hN, hlt])
   repeat (first | (refine sR ?_; simp [lb_out hkn, hk, b1, hN, hlt]) | (refine sC ?_; simp [lb_out hkn, hk, b1, hN, hlt]) | (refine sX ?_; simp only [AU, ↓reduceIte]))
   refine sN ?_
   have hlb : ∀ loc, lb nb box loc = lb nb (upd box k (some [s.rowF nl fm N a E b out own])) loc := fun loc => by rw [← hself]
   rw [hlb]
   refine AL.loopT (stFdE s nl fm N E nb k box) (fun x => x.i ≤ s.g.edges.length ∧ x.out = (List.range x.i).foldl (s.stEp fm N E n) out ∧ x.out.length ≤ fm ∧ TK mtok nt0 x.tok x.nt [.tok x.a, .tok x.b, x.own] ∧ nt ≤ x.nt) (fun x => s.g.edges.length - x.i)
    ⟨0, out, a, b, own, tok, nt⟩ ⟨Nat.zero_le _, rfl, ho, htk, Nat.le_refl _⟩ (Weaks.mk' (Nat.le_refl _) (by simp [ToL, lk]; exact to_ptr (by rw [lb_out hkn, upd_same]; simp)) (by simp [BoxL, lk]) (outFd rfl)) ?_
   rintro ⟨i, out2, a2, b2, own2, tok2, nt2⟩ S ⟨hi, hout, ho2, htk2, hnt2⟩ hS
   simp only [stFdE] at hS hi hout ho2 htk2 hnt2
   subst hS
   have hw : IntKind.i64.wrap (↑i + 1) = ((i + 1 : Nat) : Int) := by rw [wrap_in (by omega) (by omega)]; omega
   have hfold : (List.range (i + 1)).foldl (s.stEp fm N E n) out = s.stEp fm N E n out2 i := by
    rw [hout, List.range_succ, List.foldl_append]; rfl
   have hta : tok2 a2 = true := htk2.live
   have htb : tok2 b2 = true := htk2.swap.live
   by_cases hli : i < s.g.edges.length
   ·obtain ⟨x1, x2, x3, x4⟩ := h.vp _ (List.getElem_mem hlt)
    have hgd : s.p.edges.getD E.length default = s.p.edges[E.length] := by simp [hlt]
    have hfit := fitsF_c s h nl hnl fm N E out2 E.length i hlt hli (by rw [hgd]; omega) (by rw [hgd]; omega)
    have hoke := s.okE_eq N E i
    try (simp [lb_out hkn, upd_same, hli])
    repeat (first | (refine sR ?_; simp [lb_out hkn, upd_same, hli]) | (refine sC ?_; simp [lb_out hkn, upd_same, hli]) | (refine sX ?_; simp only [AU, ↓reduceIte]))
    refine Stop.of_r (RCall.lends rfl (fun tok => hfit tok nt2) ⟨.ptr (by simp only [lb_out hkn, upd_same]) (Sr.row_cds (own := own2) hta htb), .same (by simp), .same (by simp), trivial⟩) ?_
    cases e1 : s.fitK N E.length i
    ·have hok : s.okE N E i = false := by rw [hoke, e1]; rfl
     try (simp [lb_out hkn, upd_same, hw])
     repeat (first | (refine sR ?_; simp [lb_out hkn, upd_same, hw]) | (refine sC ?_; simp [lb_out hkn, upd_same, hw]) | (refine sX ?_; simp only [AU, ↓reduceIte]))
     refine sE ?_
     exact ⟨⟨i + 1, out2, a2, b2, own2, tok2, nt2⟩, ⟨hli, by rw [hfold, Sr.stEp, hok]; simp, ho2, htk2, hnt2⟩, by simp only; omega, Weaks.mk' (by have := htk2.le; omega) (by simp [ToL, lk]; exact to_ptr (by rw [lb_out hkn, upd_same]; simp)) (by simp [BoxL, lk]) (outFd rfl)⟩
    ·have hoke : s.okE N E i = !usB s.inj E i := by rw [hoke, e1]; simp
     have skip : ∀ Q : Prop, (s.inj = true → decide ((i : Int) ∈ E) = true → Q) → (s.inj = true → decide ((i : Int) ∈ E) = false → Q) → (s.inj = false → Q) → Q := by
      intro Q h1 h2 h3
      cases ei : s.inj
      ·exact h3 ei
      ·cases ed : decide ((i : Int) ∈ E)
       ·exact h2 ei ed
       ·exact h1 ei ed
     refine skip _ (fun ei ed => ?_) (fun ei ed => ?_) (fun ei => ?_)
     ·have hok : s.okE N E i = false := by rw [hoke, usB, if_pos ei, ed]; rfl
      simp [lb_out hkn, upd_same, ei]
      refine Stop.of_r (RCall.lends rfl (fun tok => contains_c E i (by omega) tok nt2) ⟨.stk htb, .same (by simp), trivial⟩) ?_
      rw [ed]
      try (simp [hw])
      repeat (first | (refine sR ?_; simp [hw]) | (refine sC ?_; simp [hw]) | (refine sX ?_; simp only [AU, ↓reduceIte]))
      refine sE ?_
      exact ⟨⟨i + 1, out2, a2, b2, own2, tok2, nt2⟩, ⟨hli, by rw [hfold, Sr.stEp, hok]; simp, ho2, htk2, hnt2⟩, by simp only; omega, Weaks.mk' (by have := htk2.le; omega) (by simp [ToL, lk]; exact to_ptr (by rw [lb_out hkn, upd_same]; simp)) (by simp [BoxL, lk]) (outFd rfl)⟩
     ·have hok : s.okE N E i = true := by rw [hoke, usB, if_pos ei, ed]; rfl
      simp [lb_out hkn, upd_same, ei]
      refine Stop.of_r (RCall.lends rfl (fun tok => contains_c E i (by omega) tok nt2) ⟨.stk htb, .same (by simp), trivial⟩) ?_
      rw [ed]
      try (simp [lb_out hkn, upd_same])
      repeat (first | (refine sR ?_; simp [lb_out hkn, upd_same]) | (refine sC ?_; simp [lb_out hkn, upd_same]) | (refine sX ?_; simp only [AU, ↓reduceIte]))
      refine ⟨⟨by omega, htb⟩, ?_⟩
      have htk3 := htk2.swap.app.swap
      simp only [upd_lb_out hkn, upd_upd]
      try (simp [lb_out hkn, upd_same])
      repeat (first | (refine sR ?_; simp [lb_out hkn, upd_same]) | (refine sC ?_; simp [lb_out hkn, upd_same]) | (refine sX ?_; simp only [AU, ↓reduceIte]))
      refine Stop.of_a (ih (E ++ [(i : Int)]) out2 a2 nt2 own2 _ _ k _ _ (by simp; omega) ho2 (by simp [lb_out hkn, upd_same]) htk3) ?_
      rintro v m' ⟨rfl, a3, b3, own3, tok3, nt3, rfl, htk4, hle4⟩
      have hle4 : nt2 + 1 ≤ nt3 := hle4
      have hle5 : nt ≤ nt3 := by omega
      simp [upd_lb_out hkn, upd_upd]
      try (simp [lb_out hkn, upd_same, rI_cut, hw])
      repeat (first | (refine sR ?_; simp [lb_out hkn, upd_same, rI_cut, hw]) | (refine sC ?_; simp [lb_out hkn, upd_same, rI_cut, hw]) | (refine sX ?_; simp only [AU, ↓reduceIte]))
      simp only [upd_lb_out hkn, upd_upd]
      refine sE ?_
      exact ⟨⟨i + 1, fndE fm (s.okE N) s.g.edges.length N n (E ++ [(i : Int)]) out2, a3, b3, own3, tok3, nt3⟩, ⟨hli, by rw [hfold, Sr.stEp, hok]; simp, fndE_len ho2, htk4, by omega⟩, by simp only; omega, Weaks.mk' hle5 (by simp [ToL, lk]; exact to_ptr (by rw [lb_out hkn, upd_same]; simp)) (by simp [BoxL, lk]) (outFd rfl)⟩
     ·have hok : s.okE N E i = true := by rw [hoke, usB, if_neg (by simp [ei])]; rfl
      simp [lb_out hkn, upd_same, ei]
      try (simp [lb_out hkn, upd_same])
      repeat (first | (refine sR ?_; simp [lb_out hkn, upd_same]) | (refine sC ?_; simp [lb_out hkn, upd_same]) | (refine sX ?_; simp only [AU, ↓reduceIte]))
      refine ⟨⟨by omega, htb⟩, ?_⟩
      have htk3 := htk2.swap.app.swap
      simp only [upd_lb_out hkn, upd_upd]
      try (simp [lb_out hkn, upd_same])
      repeat (first | (refine sR ?_; simp [lb_out hkn, upd_same]) | (refine sC ?_; simp [lb_out hkn, upd_same]) | (refine sX ?_; simp only [AU, ↓reduceIte]))
      refine Stop.of_a (ih (E ++ [(i : Int)]) out2 a2 nt2 own2 _ _ k _ _ (by simp; omega) ho2 (by simp [lb_out hkn, upd_same]) htk3) ?_
      rintro v m' ⟨rfl, a3, b3, own3, tok3, nt3, rfl, htk4, hle4⟩
      have hle4 : nt2 + 1 ≤ nt3 := hle4
      have hle5 : nt ≤ nt3 := by omega
      simp [upd_lb_out hkn, upd_upd]
      try (simp [lb_out hkn, upd_same, rI_cut, hw])
      repeat (first | (refine sR ?_; simp [lb_out hkn, upd_same, rI_cut, hw]) | (refine sC ?_; simp [lb_out hkn, upd_same, rI_cut, hw]) | (refine sX ?_; simp only [AU, ↓reduceIte]))
      simp only [upd_lb_out hkn, upd_upd]
      refine sE ?_
      exact ⟨⟨i + 1, fndE fm (s.okE N) s.g.edges.length N n (E ++ [(i : Int)]) out2, a3, b3, own3, tok3, nt3⟩, ⟨hli, by rw [hfold, Sr.stEp, hok]; simp, fndE_len ho2, htk4, by omega⟩, by simp only; omega, Weaks.mk' hle5 (by simp [ToL, lk]; exact to_ptr (by rw [lb_out hkn, upd_same]; simp)) (by simp [BoxL, lk]) (outFd rfl)⟩
   ·have : i = s.g.edges.length := by omega
    subst this
    try (simp [lb_out hkn, upd_same])
    repeat (first | (refine sR ?_; simp [lb_out hkn, upd_same]) | (refine sC ?_; simp [lb_out hkn, upd_same]) | (refine sX ?_; simp only [AU, ↓reduceIte]))
    refine sN ?_
    refine sE ?_
    refine ⟨by simp, (Fin.gen (vs := []) (av := .tup []) (tok' := tok2) (nt' := nt2) (by simp [resAs, resA]) ?_ hnt2 (Nat.le_refl _) (fun t h => ⟨h, .inl rfl⟩) (outFd (by simp)) (by simp [packA])).mono fun v m hq => ⟨hq.1, a2, b2, own2, tok2, nt2, ?_, htk2, hnt2⟩⟩
    ·rw [← upd_lb_out hkn, hbox]
    ·rw [hq.2, fndE, if_neg hbig, hout]; rfl
end Go.AM
namespace Go.AM
open Go Go.Proofs
def Sr.stNp (s : Sr) (fm : Nat) (N : List Int) (r : Nat) (out : List Mo) (k : Nat) : List Mo :=
 if s.okN N k = true then (if s.pos (N ++ [(k : Int)]) = true then s.fnP fm r (N ++ [(k : Int)]) out else out) else out
def stFdN (s : Sr) (nl : Bool) (fm : Nat) (N : List Int) (nb k : Nat) (box : Bxs) (x : AccK) : AState :=
 ⟨tl [(63, I x.i), (62, I s.g.nodes.length), (61, .d (ints s.g.nodes)), (2, I N.length), (0, .ptr k 0 0)], lb nb (upd box k (some [s.rowF nl fm N x.a [] x.b x.out x.own])) [], x.tok, x.nt⟩
theorem isD_row {t : Ty} {a : Nat} (h : a < t.nodes.length) : (isTb t)[a]'(by simp [isTb]; exact h) = isRow t a := by simp [isTb]
set_option maxRecDepth 100000 in
theorem findN_c (s : Sr) (h : s.Ok) (nl : Bool) (hnl : s.Nl nl) (fm : Nat) (hfm : fm ≤ 1000000) (mtok : Tks) (nt0 : Nat) : ∀ (r : Nat) (N : List Int) (out : List Mo) (a b : Nat) (own : Own) (box : Bxs) (nb k : Nat) (tok : Tks) (nt : Nat), N.length + r = s.p.nodes.length → out.length ≤ fm →
  box k = some [s.rowF nl fm N a [] b out own] → TK mtok nt0 tok nt [.tok a, .tok b, own] → ACalls Tryz.prog 286 [.ptr k 0 0] ⟨box, nb, tok, nt⟩ (QFd s nl fm box nb k mtok nt0 nt N [] (s.fnP fm r N out)) := by
 have hpn := h.p.n
 have hpe := h.p.e
 have hgn := h.g.n
 have hge := h.g.e
 have htn := h.t.n
 intro r
 induction r with
 | zero =>
  intro N out a b own box nb k tok nt hN ho hk htk
  exact findE_c s h nl hnl fm hfm N (by omega) mtok nt0 s.p.edges.length [] out a b own box nb k tok nt (by simp) ho hk htk
 | succ r ih =>
  intro N out a b own box nb k tok nt hN ho hk htk
  have hself : box = upd box k (some [s.rowF nl fm N a [] b out own]) := (upd_self box k _ hk).symm
  have hlt : N.length < s.p.nodes.length := by omega
  refine sB Tryz.func286 Tryz.ntmps286 ?_
  intro hbox htok
  simp only at hbox htok
  apply AL.start
  have hkn := key_lt hbox hk
  try (simp [lb_out hkn, hk])
  repeat (refine sR ?_; simp [lb_out hkn, hk])
  by_cases hbig : out.length = fm
  ·have b1 : ((out.length : Int) == (fm : Int)) = true := by simp [hbig]
   try (simp [lb_out hkn, hk, b1])
   repeat (first | (refine sR ?_; simp [lb_out hkn, hk, b1]) | (refine sC ?_; simp [lb_out hkn, hk, b1]) | (refine sX ?_; simp only [AU, ↓reduceIte]))
   refine sN ?_
   refine sE ?_
   refine ⟨by simp, (Fin.own (vs := []) (av := .tup []) (by simp [resAs, resA]) hbox rfl (Nat.le_refl _) (by simp [packA])).mono fun v m hq => ⟨hq.1, a, b, own, tok, nt, ?_, htk, Nat.le_refl _⟩⟩
   rw [hq.2, Sr.fnP, fndN, if_pos hbig, ← hself]
  ·have b1 : ((out.length : Int) == (fm : Int)) = false := by simp; omega
   try (simp [lb_out hkn, hk, b1, hlt])
   repeat (first | (refine sR ?_; simp [lb_out hkn, hk, b1, hlt]) | (refine sC ?_; simp [lb_out hkn, hk, b1, hlt]) | (refine sX ?_; simp only [AU, ↓reduceIte]))
   refine sN ?_
   have hlb : ∀ loc, lb nb box loc = lb nb (upd box k (some [s.rowF nl fm N a [] b out own])) loc := fun loc => by rw [← hself]
   rw [hlb]
   refine AL.loopT (stFdN s nl fm N nb k box) (fun x => x.i ≤ s.g.nodes.length ∧ x.out = (List.range x.i).foldl (s.stNp fm N r) out ∧ x.out.length ≤ fm ∧ TK mtok nt0 x.tok x.nt [.tok x.a, .tok x.b, x.own] ∧ nt ≤ x.nt) (fun x => s.g.nodes.length - x.i)
    ⟨0, out, a, b, own, tok, nt⟩ ⟨Nat.zero_le _, rfl, ho, htk, Nat.le_refl _⟩ (Weaks.mk' (Nat.le_refl _) (by simp [ToL, lk]; exact to_ptr (by rw [lb_out hkn, upd_same]; simp)) (by simp [BoxL, lk]) (outFd rfl)) ?_
   rintro ⟨i, out2, a2, b2, own2, tok2, nt2⟩ S ⟨hi, hout, ho2, htk2, hnt2⟩ hS
   simp only [stFdN] at hS hi hout ho2 htk2 hnt2
   subst hS
   have hw : IntKind.i64.wrap (↑i + 1) = ((i + 1 : Nat) : Int) := by rw [wrap_in (by omega) (by omega)]; omega
   have hfold : (List.range (i + 1)).foldl (s.stNp fm N r) out = s.stNp fm N r out2 i := by
    rw [hout, List.range_succ, List.foldl_append]; rfl
   have hta : tok2 a2 = true := htk2.live
   have htb : tok2 b2 = true := htk2.swap.live
   by_cases hli : i < s.g.nodes.length
   ·have hlp : N.length < s.pt.nodes.length := by rw [h.pn]; exact hlt
    have hgv := gvB_gvI hnl.n hlp i
    have hgiv := givenF_c nl s.pt.nodes N.length hlp (by rw [h.pn]; omega)
    obtain ⟨z1, z2⟩ := h.np _ (List.getElem_mem hlt)
    obtain ⟨z3, z4⟩ := h.ng _ (List.getElem_mem hli)
    have hgi : s.g.nodes.getD i 0 = s.g.nodes[i] := by simp [hli]
    have hpn2 : s.p.nodes.getD N.length 0 = s.p.nodes[N.length] := by simp [hlt]
    obtain ⟨q, hq⟩ := Int.eq_ofNat_of_zero_le z1
    obtain ⟨u, hu⟩ := Int.eq_ofNat_of_zero_le z3
    have hq2 : q < s.t.nodes.length := by omega
    have hu2 : u < s.t.nodes.length := by omega
    have hokN : s.okN N i = if (if 0 ≤ gvI nl s.pt.nodes N.length then decide (gvI nl s.pt.nodes N.length = (i : Int)) else true) = true then (if usB s.inj N i = true then false else isB s.t (u : Int) (q : Int)) else false := by
     unfold Sr.okN
     rw [hgv, hgi, hpn2, hq, hu]
    generalize gvI nl s.pt.nodes N.length = W at *
    have hisD : D.sl 1 (List.map (fun r => [blB r]) (isTb s.t)) = isD s.t := rfl
    have hlt1 : (isTb s.t).length = s.t.nodes.length := by simp [isTb]
    have hlt2 : (isRow s.t q).length = s.t.nodes.length := by simp [isRow]
    have hrow : (isTb s.t)[q]'(by rw [hlt1]; exact hq2) = isRow s.t q := isD_row hq2
    have hcol : (isRow s.t q)[u]'(by rw [hlt2]; exact hu2) = isB s.t (u : Int) (q : Int) := by simp [isRow]
    try (simp [lb_out hkn, upd_same, hli])
    repeat (first | (refine sR ?_; simp [lb_out hkn, upd_same, hli]) | (refine sC ?_; simp [lb_out hkn, upd_same, hli]) | (refine sX ?_; simp only [AU, ↓reduceIte]))
    refine Stop.of_d (hgiv _ _) ?_
    simp
    by_cases p01 : 0 ≤ W ∧ W ≠ (i : Int)
    ·obtain ⟨p0, p1⟩ := p01
     have bw : (W != (i : Int)) = true := by simp [p1]
     have hok : s.okN N i = false := by rw [hokN, if_pos p0]; simp [p1]
     try (simp [lb_out hkn, upd_same, p0, bw, hw])
     repeat (first | (refine sR ?_; simp [lb_out hkn, upd_same, p0, bw, hw]) | (refine sC ?_; simp [lb_out hkn, upd_same, p0, bw, hw]) | (refine sX ?_; simp only [AU, ↓reduceIte]))
     refine sE ?_
     exact ⟨⟨i + 1, out2, a2, b2, own2, tok2, nt2⟩, ⟨hli, by rw [hfold, Sr.stNp, hok]; simp, ho2, htk2, hnt2⟩, by simp only; omega, Weaks.mk' (by have := htk2.le; omega) (by simp [ToL, lk]; exact to_ptr (by rw [lb_out hkn, upd_same]; simp)) (by simp [BoxL, lk]) (outFd rfl)⟩
    ·have hW : (if 0 ≤ W then decide (W = (i : Int)) else true) = true := by
      by_cases p0 : 0 ≤ W
      ·rw [if_pos p0]
       by_cases p1 : W = (i : Int)
       ·simp [p1]
       ·exact absurd ⟨p0, p1⟩ p01
      ·rw [if_neg p0]
     rw [if_pos hW] at hokN
     have hst : ∀ Q, (0 ≤ W → (W != (i : Int)) = false → Q) → (¬ 0 ≤ W → Q) → Q := by
      intro Q h1 h2
      by_cases p0 : 0 ≤ W
      ·refine h1 p0 ?_
       by_cases p1 : W = (i : Int)
       ·simp [p1]
       ·exact absurd ⟨p0, p1⟩ p01
      ·exact h2 p0
     have skip : ∀ Q : Prop, (s.inj = true → decide ((i : Int) ∈ N) = true → Q) → (s.inj = true → decide ((i : Int) ∈ N) = false → Q) → (s.inj = false → Q) → Q := by
      intro Q h1 h2 h3
      cases ei : s.inj
      ·exact h3 ei
      ·cases ed : decide ((i : Int) ∈ N)
       ·exact h2 ei ed
       ·exact h1 ei ed
     refine hst _ (fun p0 bw => ?_) (fun p0 => ?_)
     ·cases hB : isB s.t (u : Int) (q : Int)
      ·have hok : s.okN N i = false := by rw [hokN, hB]; simp
       try (simp [lb_out hkn, upd_same, p0, bw, hw, hlt, hq, hu, hq2, hu2, isD, hlt1, hlt2, hrow, hcol, hB])
       repeat (first | (refine sR ?_; simp [lb_out hkn, upd_same, p0, bw, hw, hlt, hq, hu, hq2, hu2, isD, hlt1, hlt2, hrow, hcol, hB]) | (refine sC ?_; simp [lb_out hkn, upd_same, p0, bw, hw, hlt, hq, hu, hq2, hu2, isD, hlt1, hlt2, hrow, hcol, hB]) | (refine sX ?_; simp only [AU, ↓reduceIte]))
       refine sE ?_
       exact ⟨⟨i + 1, out2, a2, b2, own2, tok2, nt2⟩, ⟨hli, by rw [hfold, Sr.stNp, hok]; simp, ho2, htk2, hnt2⟩, by simp only; omega, Weaks.mk' (by have := htk2.le; omega) (by simp [ToL, lk]; exact to_ptr (by rw [lb_out hkn, upd_same]; simp)) (by simp [BoxL, lk]) (outFd rfl)⟩
      ·rw [hB] at hokN
       refine skip _ (fun ei ed => ?_) (fun ei ed => ?_) (fun ei => ?_)
       ·have hok : s.okN N i = false := by rw [hokN, usB, if_pos ei, ed]; rfl
        try (simp [lb_out hkn, upd_same, p0, bw, hw, hlt, hq, hu, hq2, hu2, isD, hlt1, hlt2, hrow, hcol, hB, ei])
        repeat (first | (refine sR ?_; simp [lb_out hkn, upd_same, p0, bw, hw, hlt, hq, hu, hq2, hu2, isD, hlt1, hlt2, hrow, hcol, hB, ei]) | (refine sC ?_; simp [lb_out hkn, upd_same, p0, bw, hw, hlt, hq, hu, hq2, hu2, isD, hlt1, hlt2, hrow, hcol, hB, ei]) | (refine sX ?_; simp only [AU, ↓reduceIte]))
        refine Stop.of_r (RCall.lends rfl (fun tok => contains_c N i (by omega) tok nt2) ⟨.stk hta, .same (by simp), trivial⟩) ?_
        rw [ed]
        try (simp [hw])
        repeat (first | (refine sR ?_; simp [hw]) | (refine sC ?_; simp [hw]) | (refine sX ?_; simp only [AU, ↓reduceIte]))
        refine sE ?_
        exact ⟨⟨i + 1, out2, a2, b2, own2, tok2, nt2⟩, ⟨hli, by rw [hfold, Sr.stNp, hok]; simp, ho2, htk2, hnt2⟩, by simp only; omega, Weaks.mk' (by have := htk2.le; omega) (by simp [ToL, lk]; exact to_ptr (by rw [lb_out hkn, upd_same]; simp)) (by simp [BoxL, lk]) (outFd rfl)⟩
       ·have hok : s.okN N i = true := by rw [hokN, usB, if_pos ei, ed]; rfl
        try (simp [lb_out hkn, upd_same, p0, bw, hw, hlt, hq, hu, hq2, hu2, isD, hlt1, hlt2, hrow, hcol, hB, ei])
        repeat (first | (refine sR ?_; simp [lb_out hkn, upd_same, p0, bw, hw, hlt, hq, hu, hq2, hu2, isD, hlt1, hlt2, hrow, hcol, hB, ei]) | (refine sC ?_; simp [lb_out hkn, upd_same, p0, bw, hw, hlt, hq, hu, hq2, hu2, isD, hlt1, hlt2, hrow, hcol, hB, ei]) | (refine sX ?_; simp only [AU, ↓reduceIte]))
        refine Stop.of_r (RCall.lends rfl (fun tok => contains_c N i (by omega) tok nt2) ⟨.stk hta, .same (by simp), trivial⟩) ?_
        rw [ed]
        try (simp [lb_out hkn, upd_same])
        repeat (first | (refine sR ?_; simp [lb_out hkn, upd_same]) | (refine sC ?_; simp [lb_out hkn, upd_same]) | (refine sX ?_; simp only [AU, ↓reduceIte]))
        refine ⟨⟨by omega, hta⟩, ?_⟩
        have htk3 := htk2.app
        simp only [upd_lb_out hkn, upd_upd]
        have hta3 : (upd (upd tok2 a2 false) nt2 true) nt2 = true := upd_same _ _ _
        have htb3 : (upd (upd tok2 a2 false) nt2 true) b2 = true := htk3.swap.live
        have hpos := possibleF_c s h nl hnl fm (N ++ [(i : Int)]) [] (by simp; omega) out2
        try (simp [lb_out hkn, upd_same])
        repeat (first | (refine sR ?_; simp [lb_out hkn, upd_same]) | (refine sC ?_; simp [lb_out hkn, upd_same]) | (refine sX ?_; simp only [AU, ↓reduceIte]))
        refine Stop.of_r (RCall.lends rfl (fun tok => hpos tok (nt2 + 1)) ⟨.ptr (row := s.rowF nl fm (N ++ [(i : Int)]) nt2 [] b2 out2 own2) (by simp [lb_out hkn, upd_same]) (Sr.row_cds (own := own2) hta3 htb3), trivial⟩) ?_
        cases hP : s.pos (N ++ [(i : Int)])
        ·try (simp [lb_out hkn, upd_same, rI_cut, hw])
         repeat (first | (refine sR ?_; simp [lb_out hkn, upd_same, rI_cut, hw]) | (refine sC ?_; simp [lb_out hkn, upd_same, rI_cut, hw]) | (refine sX ?_; simp only [AU, ↓reduceIte]))
         simp only [upd_lb_out hkn, upd_upd]
         refine sE ?_
         exact ⟨⟨i + 1, out2, nt2, b2, own2, _, nt2 + 1⟩, ⟨hli, by rw [hfold, Sr.stNp, hok, hP]; simp, ho2, htk3, Nat.le_succ_of_le hnt2⟩, by simp only; omega, Weaks.mk' (Nat.le_succ_of_le hnt2) (by simp [ToL, lk]; exact to_ptr (by rw [lb_out hkn, upd_same]; simp)) (by simp [BoxL, lk]) (outFd (s := s) (nl := nl) (fm := fm) (N := N) (E := []) (a := nt2) (b := b2) (out := out2) (own := own2) rfl)⟩
        ·try (simp [lb_out hkn, upd_same])
         repeat (first | (refine sR ?_; simp [lb_out hkn, upd_same]) | (refine sC ?_; simp [lb_out hkn, upd_same]) | (refine sX ?_; simp only [AU, ↓reduceIte]))
         refine Stop.of_a (ih (N ++ [(i : Int)]) out2 nt2 b2 own2 _ _ k _ _ (by simp; omega) ho2 (by simp [lb_out hkn, upd_same]) htk3) ?_
         rintro v m' ⟨rfl, a3, b3, own3, tok3, nt3, rfl, htk4, hle4⟩
         have hle4 : nt2 + 1 ≤ nt3 := hle4
         have hle5 : nt ≤ nt3 := by omega
         simp [upd_lb_out hkn, upd_upd]
         try (simp [lb_out hkn, upd_same, rI_cut, hw])
         repeat (first | (refine sR ?_; simp [lb_out hkn, upd_same, rI_cut, hw]) | (refine sC ?_; simp [lb_out hkn, upd_same, rI_cut, hw]) | (refine sX ?_; simp only [AU, ↓reduceIte]))
         simp only [upd_lb_out hkn, upd_upd]
         refine sE ?_
         exact ⟨⟨i + 1, s.fnP fm r (N ++ [(i : Int)]) out2, a3, b3, own3, tok3, nt3⟩, ⟨hli, by rw [hfold, Sr.stNp, hok, hP]; simp, Sr.fnP_len h ho2, htk4, by omega⟩, by simp only; omega, Weaks.mk' hle5 (by simp [ToL, lk]; exact to_ptr (by rw [lb_out hkn, upd_same]; simp)) (by simp [BoxL, lk]) (outFd (s := s) (nl := nl) (fm := fm) (N := N) (E := []) (a := a3) (b := b3) (out := s.fnP fm r (N ++ [(i : Int)]) out2) (own := own3) rfl)⟩
       ·have hok : s.okN N i = true := by rw [hokN, usB, if_neg (by simp [ei])]
        refine sR ?_
        simp [lb_out hkn, upd_same, p0, bw, hw, hlt, hq, hu, hq2, hu2, isD, hlt1, hlt2, hrow, hcol, hB, ei]
        refine sC ?_
        simp
        try (simp [lb_out hkn, upd_same])
        repeat (first | (refine sR ?_; simp [lb_out hkn, upd_same]) | (refine sC ?_; simp [lb_out hkn, upd_same]) | (refine sX ?_; simp only [AU, ↓reduceIte]))
        refine ⟨⟨by omega, hta⟩, ?_⟩
        have htk3 := htk2.app
        simp only [upd_lb_out hkn, upd_upd]
        have hta3 : (upd (upd tok2 a2 false) nt2 true) nt2 = true := upd_same _ _ _
        have htb3 : (upd (upd tok2 a2 false) nt2 true) b2 = true := htk3.swap.live
        have hpos := possibleF_c s h nl hnl fm (N ++ [(i : Int)]) [] (by simp; omega) out2
        try (simp [lb_out hkn, upd_same])
        repeat (first | (refine sR ?_; simp [lb_out hkn, upd_same]) | (refine sC ?_; simp [lb_out hkn, upd_same]) | (refine sX ?_; simp only [AU, ↓reduceIte]))
        refine Stop.of_r (RCall.lends rfl (fun tok => hpos tok (nt2 + 1)) ⟨.ptr (row := s.rowF nl fm (N ++ [(i : Int)]) nt2 [] b2 out2 own2) (by simp [lb_out hkn, upd_same]) (Sr.row_cds (own := own2) hta3 htb3), trivial⟩) ?_
        cases hP : s.pos (N ++ [(i : Int)])
        ·try (simp [lb_out hkn, upd_same, rI_cut, hw])
         repeat (first | (refine sR ?_; simp [lb_out hkn, upd_same, rI_cut, hw]) | (refine sC ?_; simp [lb_out hkn, upd_same, rI_cut, hw]) | (refine sX ?_; simp only [AU, ↓reduceIte]))
         simp only [upd_lb_out hkn, upd_upd]
         refine sE ?_
         exact ⟨⟨i + 1, out2, nt2, b2, own2, _, nt2 + 1⟩, ⟨hli, by rw [hfold, Sr.stNp, hok, hP]; simp, ho2, htk3, Nat.le_succ_of_le hnt2⟩, by simp only; omega, Weaks.mk' (Nat.le_succ_of_le hnt2) (by simp [ToL, lk]; exact to_ptr (by rw [lb_out hkn, upd_same]; simp)) (by simp [BoxL, lk]) (outFd (s := s) (nl := nl) (fm := fm) (N := N) (E := []) (a := nt2) (b := b2) (out := out2) (own := own2) rfl)⟩
        ·try (simp [lb_out hkn, upd_same])
         repeat (first | (refine sR ?_; simp [lb_out hkn, upd_same]) | (refine sC ?_; simp [lb_out hkn, upd_same]) | (refine sX ?_; simp only [AU, ↓reduceIte]))
         refine Stop.of_a (ih (N ++ [(i : Int)]) out2 nt2 b2 own2 _ _ k _ _ (by simp; omega) ho2 (by simp [lb_out hkn, upd_same]) htk3) ?_
         rintro v m' ⟨rfl, a3, b3, own3, tok3, nt3, rfl, htk4, hle4⟩
         have hle4 : nt2 + 1 ≤ nt3 := hle4
         have hle5 : nt ≤ nt3 := by omega
         simp [upd_lb_out hkn, upd_upd]
         try (simp [lb_out hkn, upd_same, rI_cut, hw])
         repeat (first | (refine sR ?_; simp [lb_out hkn, upd_same, rI_cut, hw]) | (refine sC ?_; simp [lb_out hkn, upd_same, rI_cut, hw]) | (refine sX ?_; simp only [AU, ↓reduceIte]))
         simp only [upd_lb_out hkn, upd_upd]
         refine sE ?_
         exact ⟨⟨i + 1, s.fnP fm r (N ++ [(i : Int)]) out2, a3, b3, own3, tok3, nt3⟩, ⟨hli, by rw [hfold, Sr.stNp, hok, hP]; simp, Sr.fnP_len h ho2, htk4, by omega⟩, by simp only; omega, Weaks.mk' hle5 (by simp [ToL, lk]; exact to_ptr (by rw [lb_out hkn, upd_same]; simp)) (by simp [BoxL, lk]) (outFd (s := s) (nl := nl) (fm := fm) (N := N) (E := []) (a := a3) (b := b3) (out := s.fnP fm r (N ++ [(i : Int)]) out2) (own := own3) rfl)⟩
     ·cases hB : isB s.t (u : Int) (q : Int)
      ·have hok : s.okN N i = false := by rw [hokN, hB]; simp
       try (simp [lb_out hkn, upd_same, p0, hw, hlt, hq, hu, hq2, hu2, isD, hlt1, hlt2, hrow, hcol, hB])
       repeat (first | (refine sR ?_; simp [lb_out hkn, upd_same, p0, hw, hlt, hq, hu, hq2, hu2, isD, hlt1, hlt2, hrow, hcol, hB]) | (refine sC ?_; simp [lb_out hkn, upd_same, p0, hw, hlt, hq, hu, hq2, hu2, isD, hlt1, hlt2, hrow, hcol, hB]) | (refine sX ?_; simp only [AU, ↓reduceIte]))
       refine sE ?_
       exact ⟨⟨i + 1, out2, a2, b2, own2, tok2, nt2⟩, ⟨hli, by rw [hfold, Sr.stNp, hok]; simp, ho2, htk2, hnt2⟩, by simp only; omega, Weaks.mk' (by have := htk2.le; omega) (by simp [ToL, lk]; exact to_ptr (by rw [lb_out hkn, upd_same]; simp)) (by simp [BoxL, lk]) (outFd rfl)⟩
      ·rw [hB] at hokN
       refine skip _ (fun ei ed => ?_) (fun ei ed => ?_) (fun ei => ?_)
       ·have hok : s.okN N i = false := by rw [hokN, usB, if_pos ei, ed]; rfl
        try (simp [lb_out hkn, upd_same, p0, hw, hlt, hq, hu, hq2, hu2, isD, hlt1, hlt2, hrow, hcol, hB, ei])
        repeat (first | (refine sR ?_; simp [lb_out hkn, upd_same, p0, hw, hlt, hq, hu, hq2, hu2, isD, hlt1, hlt2, hrow, hcol, hB, ei]) | (refine sC ?_; simp [lb_out hkn, upd_same, p0, hw, hlt, hq, hu, hq2, hu2, isD, hlt1, hlt2, hrow, hcol, hB, ei]) | (refine sX ?_; simp only [AU, ↓reduceIte]))
        refine Stop.of_r (RCall.lends rfl (fun tok => contains_c N i (by omega) tok nt2) ⟨.stk hta, .same (by simp), trivial⟩) ?_
        rw [ed]
        try (simp [hw])
        repeat (first | (refine sR ?_; simp [hw]) | (refine sC ?_; simp [hw]) | (refine sX ?_; simp only [AU, ↓reduceIte]))
        refine sE ?_
        exact ⟨⟨i + 1, out2, a2, b2, own2, tok2, nt2⟩, ⟨hli, by rw [hfold, Sr.stNp, hok]; simp, ho2, htk2, hnt2⟩, by simp only; omega, Weaks.mk' (by have := htk2.le; omega) (by simp [ToL, lk]; exact to_ptr (by rw [lb_out hkn, upd_same]; simp)) (by simp [BoxL, lk]) (outFd rfl)⟩
       ·have hok : s.okN N i = true := by rw [hokN, usB, if_pos ei, ed]; rfl
        try (simp [lb_out hkn, upd_same, p0, hw, hlt, hq, hu, hq2, hu2, isD, hlt1, hlt2, hrow, hcol, hB, ei])
        repeat (first | (refine sR ?_; simp [lb_out hkn, upd_same, p0, hw, hlt, hq, hu, hq2, hu2, isD, hlt1, hlt2, hrow, hcol, hB, ei]) | (refine sC ?_; simp [lb_out hkn, upd_same, p0, hw, hlt, hq, hu, hq2, hu2, isD, hlt1, hlt2, hrow, hcol, hB, ei]) | (refine sX ?_; simp only [AU, ↓reduceIte]))
        refine Stop.of_r (RCall.lends rfl (fun tok => contains_c N i (by omega) tok nt2) ⟨.stk hta, .same (by simp), trivial⟩) ?_
        rw [ed]
        try (simp [lb_out hkn, upd_same])
        repeat (first | (refine sR ?_; simp [lb_out hkn, upd_same]) | (refine sC ?_; simp [lb_out hkn, upd_same]) | (refine sX ?_; simp only [AU, ↓reduceIte]))
        refine ⟨⟨by omega, hta⟩, ?_⟩
        have htk3 := htk2.app
        simp only [upd_lb_out hkn, upd_upd]
        have hta3 : (upd (upd tok2 a2 false) nt2 true) nt2 = true := upd_same _ _ _
        have htb3 : (upd (upd tok2 a2 false) nt2 true) b2 = true := htk3.swap.live
        have hpos := possibleF_c s h nl hnl fm (N ++ [(i : Int)]) [] (by simp; omega) out2
        try (simp [lb_out hkn, upd_same])
        repeat (first | (refine sR ?_; simp [lb_out hkn, upd_same]) | (refine sC ?_; simp [lb_out hkn, upd_same]) | (refine sX ?_; simp only [AU, ↓reduceIte]))
        refine Stop.of_r (RCall.lends rfl (fun tok => hpos tok (nt2 + 1)) ⟨.ptr (row := s.rowF nl fm (N ++ [(i : Int)]) nt2 [] b2 out2 own2) (by simp [lb_out hkn, upd_same]) (Sr.row_cds (own := own2) hta3 htb3), trivial⟩) ?_
        cases hP : s.pos (N ++ [(i : Int)])
        ·try (simp [lb_out hkn, upd_same, rI_cut, hw])
         repeat (first | (refine sR ?_; simp [lb_out hkn, upd_same, rI_cut, hw]) | (refine sC ?_; simp [lb_out hkn, upd_same, rI_cut, hw]) | (refine sX ?_; simp only [AU, ↓reduceIte]))
         simp only [upd_lb_out hkn, upd_upd]
         refine sE ?_
         exact ⟨⟨i + 1, out2, nt2, b2, own2, _, nt2 + 1⟩, ⟨hli, by rw [hfold, Sr.stNp, hok, hP]; simp, ho2, htk3, Nat.le_succ_of_le hnt2⟩, by simp only; omega, Weaks.mk' (Nat.le_succ_of_le hnt2) (by simp [ToL, lk]; exact to_ptr (by rw [lb_out hkn, upd_same]; simp)) (by simp [BoxL, lk]) (outFd (s := s) (nl := nl) (fm := fm) (N := N) (E := []) (a := nt2) (b := b2) (out := out2) (own := own2) rfl)⟩
        ·try (simp [lb_out hkn, upd_same])
         repeat (first | (refine sR ?_; simp [lb_out hkn, upd_same]) | (refine sC ?_; simp [lb_out hkn, upd_same]) | (refine sX ?_; simp only [AU, ↓reduceIte]))
         refine Stop.of_a (ih (N ++ [(i : Int)]) out2 nt2 b2 own2 _ _ k _ _ (by simp; omega) ho2 (by simp [lb_out hkn, upd_same]) htk3) ?_
         rintro v m' ⟨rfl, a3, b3, own3, tok3, nt3, rfl, htk4, hle4⟩
         have hle4 : nt2 + 1 ≤ nt3 := hle4
         have hle5 : nt ≤ nt3 := by omega
         simp [upd_lb_out hkn, upd_upd]
         try (simp [lb_out hkn, upd_same, rI_cut, hw])
         repeat (first | (refine sR ?_; simp [lb_out hkn, upd_same, rI_cut, hw]) | (refine sC ?_; simp [lb_out hkn, upd_same, rI_cut, hw]) | (refine sX ?_; simp only [AU, ↓reduceIte]))
         simp only [upd_lb_out hkn, upd_upd]
         refine sE ?_
         exact ⟨⟨i + 1, s.fnP fm r (N ++ [(i : Int)]) out2, a3, b3, own3, tok3, nt3⟩, ⟨hli, by rw [hfold, Sr.stNp, hok, hP]; simp, Sr.fnP_len h ho2, htk4, by omega⟩, by simp only; omega, Weaks.mk' hle5 (by simp [ToL, lk]; exact to_ptr (by rw [lb_out hkn, upd_same]; simp)) (by simp [BoxL, lk]) (outFd (s := s) (nl := nl) (fm := fm) (N := N) (E := []) (a := a3) (b := b3) (out := s.fnP fm r (N ++ [(i : Int)]) out2) (own := own3) rfl)⟩
       ·have hok : s.okN N i = true := by rw [hokN, usB, if_neg (by simp [ei])]
        refine sR ?_
        simp [lb_out hkn, upd_same, p0, hw, hlt, hq, hu, hq2, hu2, isD, hlt1, hlt2, hrow, hcol, hB, ei]
        refine sC ?_
        simp
        try (simp [lb_out hkn, upd_same])
        repeat (first | (refine sR ?_; simp [lb_out hkn, upd_same]) | (refine sC ?_; simp [lb_out hkn, upd_same]) | (refine sX ?_; simp only [AU, ↓reduceIte]))
        refine ⟨⟨by omega, hta⟩, ?_⟩
        have htk3 := htk2.app
        simp only [upd_lb_out hkn, upd_upd]
        have hta3 : (upd (upd tok2 a2 false) nt2 true) nt2 = true := upd_same _ _ _
        have htb3 : (upd (upd tok2 a2 false) nt2 true) b2 = true := htk3.swap.live
        have hpos := possibleF_c s h nl hnl fm (N ++ [(i : Int)]) [] (by simp; omega) out2
        try (simp [lb_out hkn, upd_same])
        repeat (first | (refine sR ?_; simp [lb_out hkn, upd_same]) | (refine sC ?_; simp [lb_out hkn, upd_same]) | (refine sX ?_; simp only [AU, ↓reduceIte]))
        refine Stop.of_r (RCall.lends rfl (fun tok => hpos tok (nt2 + 1)) ⟨.ptr (row := s.rowF nl fm (N ++ [(i : Int)]) nt2 [] b2 out2 own2) (by simp [lb_out hkn, upd_same]) (Sr.row_cds (own := own2) hta3 htb3), trivial⟩) ?_
        cases hP : s.pos (N ++ [(i : Int)])
        ·try (simp [lb_out hkn, upd_same, rI_cut, hw])
         repeat (first | (refine sR ?_; simp [lb_out hkn, upd_same, rI_cut, hw]) | (refine sC ?_; simp [lb_out hkn, upd_same, rI_cut, hw]) | (refine sX ?_; simp only [AU, ↓reduceIte]))
         simp only [upd_lb_out hkn, upd_upd]
         refine sE ?_
         exact ⟨⟨i + 1, out2, nt2, b2, own2, _, nt2 + 1⟩, ⟨hli, by rw [hfold, Sr.stNp, hok, hP]; simp, ho2, htk3, Nat.le_succ_of_le hnt2⟩, by simp only; omega, Weaks.mk' (Nat.le_succ_of_le hnt2) (by simp [ToL, lk]; exact to_ptr (by rw [lb_out hkn, upd_same]; simp)) (by simp [BoxL, lk]) (outFd (s := s) (nl := nl) (fm := fm) (N := N) (E := []) (a := nt2) (b := b2) (out := out2) (own := own2) rfl)⟩
        ·try (simp [lb_out hkn, upd_same])
         repeat (first | (refine sR ?_; simp [lb_out hkn, upd_same]) | (refine sC ?_; simp [lb_out hkn, upd_same]) | (refine sX ?_; simp only [AU, ↓reduceIte]))
         refine Stop.of_a (ih (N ++ [(i : Int)]) out2 nt2 b2 own2 _ _ k _ _ (by simp; omega) ho2 (by simp [lb_out hkn, upd_same]) htk3) ?_
         rintro v m' ⟨rfl, a3, b3, own3, tok3, nt3, rfl, htk4, hle4⟩
         have hle4 : nt2 + 1 ≤ nt3 := hle4
         have hle5 : nt ≤ nt3 := by omega
         simp [upd_lb_out hkn, upd_upd]
         try (simp [lb_out hkn, upd_same, rI_cut, hw])
         repeat (first | (refine sR ?_; simp [lb_out hkn, upd_same, rI_cut, hw]) | (refine sC ?_; simp [lb_out hkn, upd_same, rI_cut, hw]) | (refine sX ?_; simp only [AU, ↓reduceIte]))
         simp only [upd_lb_out hkn, upd_upd]
         refine sE ?_
         exact ⟨⟨i + 1, s.fnP fm r (N ++ [(i : Int)]) out2, a3, b3, own3, tok3, nt3⟩, ⟨hli, by rw [hfold, Sr.stNp, hok, hP]; simp, Sr.fnP_len h ho2, htk4, by omega⟩, by simp only; omega, Weaks.mk' hle5 (by simp [ToL, lk]; exact to_ptr (by rw [lb_out hkn, upd_same]; simp)) (by simp [BoxL, lk]) (outFd (s := s) (nl := nl) (fm := fm) (N := N) (E := []) (a := a3) (b := b3) (out := s.fnP fm r (N ++ [(i : Int)]) out2) (own := own3) rfl)⟩
   ·have : i = s.g.nodes.length := by omega
    subst this
    try (simp [lb_out hkn, upd_same])
    repeat (first | (refine sR ?_; simp [lb_out hkn, upd_same]) | (refine sC ?_; simp [lb_out hkn, upd_same]) | (refine sX ?_; simp only [AU, ↓reduceIte]))
    refine sN ?_
    refine sE ?_
    refine ⟨by simp, (Fin.gen (vs := []) (av := .tup []) (tok' := tok2) (nt' := nt2) (by simp [resAs, resA]) ?_ hnt2 (Nat.le_refl _) (fun t h => ⟨h, .inl rfl⟩) (outFd (by simp)) (by simp [packA])).mono fun v m hq => ⟨hq.1, a2, b2, own2, tok2, nt2, ?_, htk2, hnt2⟩⟩
    ·rw [← upd_lb_out hkn, hbox]
    ·rw [hq.2, Sr.fnP, fndN, if_neg hbig, hout]; rfl
end Go.AM
namespace Go.AM
open Go Go.Proofs
theorem to_frzW {p q : Nat → Prop} {k n : Nat} {L : List Bool} (h : L.length = n) : To p q (some (k, 1, L.map fun b => [D.raw (.bool b)])) (.msl k 0 n 1) (.d (blB L)) := by
 have h2 := To.frz (p := p) (q := q) (fz := some (k, 1, L.map fun b => [D.raw (.bool b)])) (k := k) (sz := 1) (es := L.map fun b => [D.raw (.bool b)]) rfl
 have : (L.map fun b => [D.raw (.bool b)]).length = n := by simp [h]
 rw [this] at h2
 exact h2
def mkB (n : Nat) (l : List Int) : List Bool := (List.range n).map fun (b : Nat) => decide ((b : Int) ∈ l)
theorem mkB_len (n : Nat) (l : List Int) : (mkB n l).length = n := by simp [mkB]
theorem mkB_nil (n : Nat) : List.replicate n [B false] = rowsB (mkB n []) := by
 refine List.ext_getElem (by simp [mkB]) fun i h1 h2 => ?_
 simp [rowsB, mkB]
theorem mkB_set {n : Nat} {l : List Int} {v : Int} (h0 : 0 ≤ v) : (mkB n l).set v.toNat true = mkB n (l ++ [v]) := by
 refine List.ext_getElem (by simp [mkB]) fun i h1 h2 => ?_
 rw [List.getElem_set]
 simp only [mkB, List.getElem_map, List.getElem_range, List.mem_append, List.mem_singleton]
 by_cases e : v.toNat = i
 ·rw [if_pos e]
  have : (i : Int) = v := by omega
  simp [this]
 ·rw [if_neg e]
  have : ¬ (i : Int) = v := by omega
  simp [this]
theorem mkB_row (t : Ty) (a : Nat) : mkB t.nodes.length (belK t (a : Int) t.nodes.length) = isRow t a := by
 refine List.ext_getElem (by simp [mkB, isRow]) fun i h1 h2 => ?_
 simp only [mkB, isRow, List.getElem_map, List.getElem_range]
 have hi : i < t.nodes.length := by simpa [mkB] using h1
 unfold belK
 by_cases h : isB t (i : Int) (a : Int) = true
 ·rw [h, decide_eq_true_eq]
  exact List.mem_map.2 ⟨i, List.mem_filter.2 ⟨List.mem_range.2 hi, h⟩, rfl⟩
 ·simp only [Bool.not_eq_true] at h
  rw [h, decide_eq_false_iff_not]
  intro hm
  obtain ⟨x, hx, e⟩ := List.mem_map.1 hm
  obtain ⟨_, hx⟩ := List.mem_filter.1 hx
  have : x = i := by omega
  subst this
  rw [h] at hx
  cases hx
theorem isTb_take {t : Ty} {i : Nat} (h : i < t.nodes.length) : (isTb t).take (i + 1) = (isTb t).take i ++ [isRow t i] := by
 have hl : i < (isTb t).length := by simp [isTb]; exact h
 rw [List.take_succ_eq_append_getElem hl, isD_row h]
def isRs (t : Ty) (i : Nat) : List (List D) := ((isTb t).take i).map fun r => [blB r]
theorem isRs_succ {t : Ty} {i : Nat} (h : i < t.nodes.length) : isRs t (i + 1) = isRs t i ++ [[blB (isRow t i)]] := by
 unfold isRs
 rw [isTb_take h, List.map_append]
 rfl
theorem isRs_len (t : Ty) (i : Nat) : (isRs t i).length ≤ i := by unfold isRs; rw [List.length_map, List.length_take]; omega
def stBl (t : Ty) (nb : Nat) (box : Bxs) (x : Acc) : AState :=
 ⟨tl [(13, I x.i), (12, I t.nodes.length), (11, .d (nts t.nodes)), (3, .osl 1 (isRs t x.i) x.own), (1, .ptr (nb + 1) 0 0)], lb nb box [(1, [[.d (nts t.nodes), .d (ets t.edges)]])], x.tok, x.nt⟩
def stBm (t : Ty) (i : Nat) (L : List Int) (own : Own) (nb : Nat) (box : Bxs) (tok : Tks) (nt : Nat) (j : Nat) : AState :=
 ⟨tl [(28, I j), (27, I L.length), (26, .d (ints L)), (5, .msl (nb + 19) 0 t.nodes.length 1), (13, I i), (12, I t.nodes.length), (11, .d (nts t.nodes)), (3, .osl 1 (isRs t i) own), (1, .ptr (nb + 1) 0 0)],
  lb nb box [(19, rowsB (mkB t.nodes.length (L.take j))), (1, [[.d (nts t.nodes), .d (ets t.edges)]])], tok, nt⟩
theorem belowF_c (t : Ty) (ht : t.Fit) (h0 : tyE t = 0) (tok : Tks) (nt : Nat) : DCall Tryz.prog 285 [t.av] tok nt (.d (isD t)) tok nt := by
 intro box nb
 have htn := ht.n
 have hb := fun a => below_c t ht a
 refine sB Tryz.func285 Tryz.ntmps285 ?_
 intro hbox htok
 simp only at hbox htok
 apply AL.start
 try (simp)
 repeat (refine sR ?_; simp)
 refine sN ?_
 refine AL.loopT (stBl t nb box) (fun x => x.i ≤ t.nodes.length ∧ TK tok nt x.tok x.nt [x.own]) (fun x => t.nodes.length - x.i) ⟨0, .full, tok, nt⟩ ⟨Nat.zero_le _, (TK.start htok).full⟩ (Weaks.mk (Nat.le_refl _) rfl (by simp [ToL, lk, isRs]) (by simp [BoxL, lk])) ?_
 rintro ⟨i, own, tok', nt'⟩ S ⟨hi, htk⟩ hS
 simp only [stBl] at hS hi htk
 subst hS
 have hw := sW (i := i) (by omega)
 by_cases hlt : i < t.nodes.length
 ·have hrow := mkB_row t i
  have hs := isRs_succ hlt
  have hsl := isRs_len t i
  have hlR : belR t (i : Int) = (belK t (i : Int) t.nodes.length, 0) := by
   unfold belR
   rw [givE_leaf h0 (by omega), if_neg (by omega)]
  have hLn : ∀ v ∈ belK t (i : Int) t.nodes.length, 0 ≤ v ∧ v < t.nodes.length := by
   intro v hv
   unfold belK at hv
   simp only [List.mem_map, List.mem_filter, List.mem_range] at hv
   obtain ⟨x, ⟨hx, _⟩, rfl⟩ := hv
   omega
  have hLl := belK_len t (i : Int) t.nodes.length
  have hbi := hb (i : Int)
  rw [hlR] at hbi
  generalize belK t (i : Int) t.nodes.length = L at *
  try (simp [hlt])
  repeat (first | (refine sR ?_; simp [hlt]) | (refine sC ?_; simp [hlt]) | (refine sX ?_; simp only [AU, ↓reduceIte]))
  refine ⟨by omega, ?_⟩
  try (simp)
  repeat (first | (refine sR ?_; simp) | (refine sC ?_; simp) | (refine sX ?_; simp only [AU, ↓reduceIte]))
  refine Stop.of_d (hbi _ _) ?_
  simp
  try (simp)
  repeat (first | (refine sR ?_; simp) | (refine sC ?_; simp) | (refine sX ?_; simp only [AU, ↓reduceIte]))
  refine sN ?_
  refine AL.loopT (stBm t i L own nb box tok' nt') (fun j => j ≤ L.length) (fun j => L.length - j) 0 (Nat.zero_le _) (Weaks.mk htk.le rfl (by simp [ToL, lk]) (by simp [BoxL, lk, mkB_nil])) ?_
  rintro j S hj hS
  simp only [stBm] at hS
  subst hS
  have hwj := sW (i := j) (by omega)
  by_cases hlj : j < L.length
  ·obtain ⟨v0, v1⟩ := hLn _ (List.getElem_mem hlj)
   have hset : (mkB t.nodes.length (L.take j)).set L[j].toNat true = mkB t.nodes.length (L.take (j + 1)) := by
    rw [mkB_set v0, ← List.take_succ_eq_append_getElem hlj]
   have hml := mkB_len t.nodes.length (L.take j)
   have v2 : L[j].toNat < t.nodes.length := by omega
   try (simp [hlj, v0, v1, v2, hml, hwj])
   repeat (first | (refine sR ?_; simp [hlj, v0, v1, v2, hml, hwj]) | (refine sC ?_; simp [hlj, v0, v1, v2, hml, hwj]) | (refine sX ?_; simp only [AU, ↓reduceIte]))
   refine sE ?_
   exact ⟨j + 1, hlj, by omega, Weaks.mk htk.le rfl (by simp [ToL, lk]) (by simp [BoxL, lk, hset])⟩
  ·have : j = L.length := by omega
   subst this
   rw [List.take_length, hrow]
   refine sR ?_
   simp
   refine sC ?_
   simp
   refine sX ?_
   simp only [AU, ↓reduceIte]
   have hrl : (isRow t i).length = t.nodes.length := by simp [isRow]
   refine AL.weak (Weaks.frz (l' := [(5, .d (blB (isRow t i))), (13, I i), (12, I t.nodes.length), (11, .d (nts t.nodes)), (3, .osl 1 (isRs t i) own), (1, .ptr (nb + 1) 0 0)]) (loc' := [(1, [[.d (nts t.nodes), .d (ets t.edges)]])]) 19 1 ((isRow t i).map fun b => [D.raw (.bool b)]) htk.le rfl (by simp [lk, rowsB_eq]) (by simp [lk]) (fun e he => by obtain ⟨b, _, rfl⟩ := List.mem_map.1 he; rfl) (by simp [ToL, lk, lb_at]; exact to_frzW hrl) (by simp [BoxL, lk])) ?_
   try (simp)
   repeat (first | (refine sR ?_; simp) | (refine sC ?_; simp) | (refine sX ?_; simp only [AU, ↓reduceIte]))
   refine ⟨⟨by omega, htk.live⟩, ?_⟩
   try (simp [hw])
   repeat (first | (refine sR ?_; simp [hw]) | (refine sC ?_; simp [hw]) | (refine sX ?_; simp only [AU, ↓reduceIte]))
   refine sE ?_
   exact ⟨⟨i + 1, _, _, _⟩, ⟨hlt, htk.app⟩, by simp only; omega, Weaks.mk htk.app.le rfl (by simp [ToL, lk, hs]) (by simp [BoxL, lk])⟩
 ·have : i = t.nodes.length := by omega
  subst this
  have htl : isRs t t.nodes.length = (isTb t).map fun r => [blB r] := by unfold isRs; rw [List.take_of_length_le (by simp [isTb])]
  rw [htl]
  try (simp)
  repeat (first | (refine sR ?_; simp) | (refine sC ?_; simp) | (refine sX ?_; simp only [AU, ↓reduceIte]))
  refine sN ?_
  refine AL.ret ?_
  try simp only [AU]
  exact ⟨by simp, Fin.data (av := .d (isD t)) (by simp [resAs, resA]; rfl) hbox rfl htok htk.old htk.le (by simp [packA, isD])⟩
theorem within1_c (x : Int) (box : Bxs) (nb k : Nat) (tok : Tks) (nt : Nat) (t : Ty) (hk : box k = some [[.d (nts t.nodes), .d (ets t.edges)]]) :
  ACalls Tryz.prog 283 [I x, .ptr k 0 0] ⟨box, nb, tok, nt⟩ fun v m => v = B (decide ((t.nodes.length : Int) ≤ x)) ∧ m = ⟨box, nb, tok, nt⟩ := by
 refine sB Tryz.func283 Tryz.ntmps283 ?_
 intro hbox htok
 simp only at hbox htok
 apply AL.start
 have kn := key_lt hbox hk
 try (simp [lb_out kn, hk])
 repeat (refine sR ?_; simp [lb_out kn, hk])
 refine sT ?_
 try simp only [AU]
 refine ⟨by simp, sF hbox htok (fun _ h => h) (Nat.le_refl _) ?_⟩
 simp [packA]
theorem within2_c (x : E) (box : Bxs) (nb k : Nat) (tok : Tks) (nt : Nat) (t : Ty) (hk : box k = some [[.d (nts t.nodes), .d (ets t.edges)]]) :
  ACalls Tryz.prog 284 [.agg [I x.ty, I x.fr, I x.to], .ptr k 0 0] ⟨box, nb, tok, nt⟩ fun v m => v = B (decide ((t.edges.length : Int) ≤ x.ty)) ∧ m = ⟨box, nb, tok, nt⟩ := by
 refine sB Tryz.func284 Tryz.ntmps284 ?_
 intro hbox htok
 simp only at hbox htok
 apply AL.start
 have kn := key_lt hbox hk
 try (simp [lb_out kn, hk])
 repeat (refine sR ?_; simp [lb_out kn, hk])
 refine sT ?_
 try simp only [AU]
 refine ⟨by simp, sF hbox htok (fun _ h => h) (Nat.le_refl _) ?_⟩
 simp [packA]
def wiN (t : Ty) (x : Int) : Bool := decide ((t.nodes.length : Int) ≤ x)
def wiX (t : Ty) (x : E) : Bool := decide ((t.edges.length : Int) ≤ x.ty)
theorem typG_wi {t : Ty} {g : Gr} (hv : validG g = 0) : typG t g = (!anyB (wiN t) g.nodes && !anyB (wiX t) g.edges) := by
 obtain ⟨_, h1, h2⟩ := validG_types hv
 unfold typG anyB
 congr 1
 ·rw [Bool.eq_iff_iff, List.all_eq_true, Bool.not_eq_true', List.any_eq_false]
  refine ⟨fun h x hx => ?_, fun h x hx => ?_⟩
  ·have := h x hx
   simp [typN, wiN] at this ⊢
   omega
  ·have a := h x hx
   have b := h1 x hx
   simp [typN, wiN, withinB] at a b ⊢
   omega
 ·rw [Bool.eq_iff_iff, List.all_eq_true, Bool.not_eq_true', List.any_eq_false]
  refine ⟨fun h x hx => ?_, fun h x hx => ?_⟩
  ·have := h x hx
   simp [typX, wiX] at this ⊢
   omega
  ·have a := h x hx
   have b := h2 x hx
   simp [typX, wiX, fitsB, withinB] at a b ⊢
   omega
theorem withinF_c (t : Ty) (ht : t.Fit) (g : Gr) (hg : g.Fit) (hv : validG g = 0) (tok : Tks) (nt : Nat) : DCall Tryz.prog 239 [t.av, g.av] tok nt (B (typG t g)) tok nt := by
 intro box nb
 have h1 := fun y box nb k tok nt hbk => within1_c y box nb k tok nt t hbk
 have h2 := fun y box nb k tok nt hbk => within2_c y box nb k tok nt t hbk
 rw [typG_wi hv]
 obtain ⟨p, hp⟩ : ∃ p, wiN t = p := ⟨_, rfl⟩
 obtain ⟨q, hq⟩ : ∃ q, wiX t = q := ⟨_, rfl⟩
 have e1 : ∀ y, decide ((t.nodes.length : Int) ≤ y) = p y := fun y => by rw [← hp]; rfl
 have e2 : ∀ y : E, decide ((t.edges.length : Int) ≤ y.ty) = q y := fun y => by rw [← hq]; rfl
 simp only [e1] at h1
 simp only [e2] at h2
 rw [hp, hq]
 have hgn := hg.n
 have hge := hg.e
 refine sB Tryz.func239 Tryz.ntmps239 ?_
 intro hbox htok
 simp only at hbox htok
 apply AL.start
 try (simp)
 repeat (refine sR ?_; simp)
 refine Stop.of_b (containsFunc_c g.nodes 283 [.ptr (nb + 2) 0 0] p hgn _ _ _ _ (fun c hc => by rw [List.mem_singleton.1 hc]; simp [lb_at]) (fun y hy box' nb' he => h1 y box' nb' _ _ _ (he _ _ (by simp [lb_at])))) ?_
 simp
 cases c1 : anyB p g.nodes
 ·try (simp)
  repeat (refine sR ?_; simp)
  refine Stop.of_b (containsFuncE_c g.edges 284 [.ptr (nb + 2) 0 0] q hge _ _ _ _ (fun c hc => by rw [List.mem_singleton.1 hc]; simp [lb_at]) (fun y hy box' nb' he => h2 y box' nb' _ _ _ (he _ _ (by simp [lb_at])))) ?_
  simp
  try (simp)
  repeat (refine sR ?_; simp)
  refine sT ?_
  try simp only [AU]
  refine ⟨by simp, sF hbox htok (fun _ h => h) (Nat.le_refl _) ?_⟩
  simp [packA]
 ·try (simp)
  repeat (refine sR ?_; simp)
  refine sT ?_
  try simp only [AU]
  refine ⟨by simp, sF hbox htok (fun _ h => h) (Nat.le_refl _) ?_⟩
  simp [packA]
end Go.AM
