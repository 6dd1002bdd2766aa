/-
 Parts of the proof, as merged from many texts: a machine over data, what the functions compute, plain laws.
-/
import Derived.Test.YtainalmfffjnjaaGreatDoorPKV6
import Derived.Shelf.Spec.SlicesGrow
set_option linter.unusedSimpArgs false
set_option linter.unusedVariables false
namespace Go.AM
open Go
def ascAt (l : List Int) (n : Int) (i : Nat) : Int := if l.getD i 0 < 0 ∨ n ≤ l.getD i 0 then 6 else if 0 < i ∧ l.getD i 0 ≤ l.getD (i - 1) 0 then 12 else 0
def ascE (l : List Int) (n : Int) : Int := firstE (ascAt l n) l.length
def dangAt (g : Gr) (p : Mo) (i : Nat) : Int := if (g.edges.getD (p.edges.getD i 0).toNat default).fr ∈ p.nodes ∧ (g.edges.getD (p.edges.getD i 0).toNat default).to ∈ p.nodes then 0 else 14
def rightP (g : Gr) (p : Mo) : Int :=
 if ascE p.nodes g.nodes.length ≠ 0 then ascE p.nodes g.nodes.length else if ascE p.edges g.edges.length ≠ 0 then ascE p.edges g.edges.length else firstE (dangAt g p) p.edges.length
def validP (g : Gr) (p : Mo) : Int := if validG g ≠ 0 then validG g else rightP g p
theorem asc_lt {l : List Int} {n : Int} (h : ascE l n = 0) : ∀ j i, i < j → j < l.length → l.getD i 0 < l.getD j 0
 | 0, i, hi, _ => absurd hi (Nat.not_lt_zero _)
 | j + 1, i, hi, hj => by
  have h1 := firstE_all _ h (j + 1) hj
  unfold ascAt at h1
  split at h1
  ·cases h1
  ·split at h1
   ·cases h1
   ·rename_i h3
    have h4 : l.getD j 0 < l.getD (j + 1) 0 := by
     have : j + 1 - 1 = j := rfl
     rw [this] at h3
     omega
    by_cases e : i = j
    ·subst e; exact h4
    ·have := asc_lt h j i (by omega) (by omega)
     omega
theorem asc_rng {l : List Int} {n : Int} (h : ascE l n = 0) : ∀ x ∈ l, 0 ≤ x ∧ x < n := fun x hx => by
 obtain ⟨i, hi, rfl⟩ := mem_getD hx
 have h1 := firstE_all _ h i hi
 unfold ascAt at h1
 split at h1
 ·cases h1
 ·omega
theorem asc_of {l : List Int} {n : Int} (h1 : ∀ x ∈ l, 0 ≤ x ∧ x < n) (h2 : ∀ j i, i < j → j < l.length → l.getD i 0 < l.getD j 0) : ascE l n = 0 := firstE_zero _ fun i hi => by
 have r := h1 _ (getD_mem (d := 0) hi)
 unfold ascAt
 rw [if_neg (by omega), if_neg]
 rintro ⟨h3, h4⟩
 have := h2 i (i - 1) (by omega) hi
 omega
structure VP (g : Gr) (p : Mo) : Prop where
 va : validG g = 0
 n : ∀ x ∈ p.nodes, 0 ≤ x ∧ x < g.nodes.length
 e : ∀ x ∈ p.edges, 0 ≤ x ∧ x < g.edges.length
 sn : ∀ j i, i < j → j < p.nodes.length → p.nodes.getD i 0 < p.nodes.getD j 0
 se : ∀ j i, i < j → j < p.edges.length → p.edges.getD i 0 < p.edges.getD j 0
 c : ∀ x ∈ p.edges, (g.edges.getD x.toNat default).fr ∈ p.nodes ∧ (g.edges.getD x.toNat default).to ∈ p.nodes
theorem VP.of {g : Gr} {p : Mo} (h : validP g p = 0) : VP g p := by
 unfold validP at h
 split at h
 ·contradiction
 ·rename_i h1
  unfold rightP at h
  split at h
  ·contradiction
  ·rename_i h2
   split at h
   ·contradiction
   ·rename_i h3
    have h2' := Decidable.not_not.1 h2
    have h3' := Decidable.not_not.1 h3
    refine ⟨Decidable.not_not.1 h1, asc_rng h2', asc_rng h3', asc_lt h2', asc_lt h3', fun x hx => ?_⟩
    obtain ⟨i, hi, rfl⟩ := mem_getD hx
    have h4 := firstE_all _ h i hi
    unfold dangAt at h4
    split at h4
    ·assumption
    ·cases h4
theorem VP.v {g : Gr} {p : Mo} (h : VP g p) : validP g p = 0 := by
 unfold validP rightP
 rw [if_neg (by simp [h.va]), if_neg (by simp [asc_of h.n h.sn]), if_neg (by simp [asc_of h.e h.se])]
 refine firstE_zero _ fun i hi => ?_
 unfold dangAt
 rw [if_pos (h.c _ (getD_mem (d := 0) hi))]
theorem nodup_of_lt {l : List Int} (h : ∀ j i, i < j → j < l.length → l.getD i 0 < l.getD j 0) : l.Nodup := by
 rw [nodup_getD]
 intro i j hij hj e
 have := h j i hij hj
 omega
theorem len_of {l : List Int} {n : Nat} (h : l.Nodup) (hr : ∀ x ∈ l, 0 ≤ x ∧ x < n) : l.length ≤ n := by
 have := nodup_le l (iota n) h fun x hx => by
  have := hr x hx
  simp only [iota, List.mem_map, List.mem_range]
  exact ⟨x.toNat, by omega, by omega⟩
 simpa [iota] using this
theorem VP.len {g : Gr} {p : Mo} (h : VP g p) : p.nodes.length ≤ g.nodes.length ∧ p.edges.length ≤ g.edges.length := ⟨len_of (nodup_of_lt h.sn) h.n, len_of (nodup_of_lt h.se) h.e⟩
def exE1 (g : Gr) (p : Mo) (k : Int) : E := ⟨(g.edges.getD k.toNat default).ty, indexI p.nodes (g.edges.getD k.toNat default).fr, indexI p.nodes (g.edges.getD k.toNat default).to⟩
def exG (g : Gr) (p : Mo) : Gr := ⟨p.nodes.map fun k => g.nodes.getD k.toNat 0, p.edges.map (exE1 g p)⟩
theorem indexI_in {l : List Int} {x : Int} (h : x ∈ l) : 0 ≤ indexI l x ∧ indexI l x < l.length ∧ l.getD (indexI l x).toNat 0 = x := by
 rcases indexI_spec l x with ⟨_, hn⟩ | ⟨k, h2, h3, h4⟩
 ·exact absurd h hn
 ·rw [h2]; exact ⟨by omega, by omega, h4⟩
theorem indexI_gd {l : List Int} (hl : l.Nodup) {i : Nat} (h : i < l.length) : indexI l (l.getD i 0) = i := by
 obtain ⟨h1, h2, h3⟩ := indexI_in (getD_mem (d := 0) h)
 have := getD_inj hl (show (indexI l (l.getD i 0)).toNat < l.length by omega) h h3
 omega
theorem VP.emb {g : Gr} {p : Mo} (h : VP g p) : Emb (exG g p) g p := by
 have hl := h.len
 obtain ⟨hs, ht, he⟩ := validG_types h.va
 have hv : validG (exG g p) = 0 := by
  refine validG_of (by simp only [exG, List.length_map]; omega) (fun n hn => ?_) fun e hx => ?_
  ·simp only [exG, List.mem_map] at hn
   obtain ⟨k, hk, rfl⟩ := hn
   have := h.n k hk
   exact ht _ (getD_mem (by omega))
  ·simp only [exG, List.mem_map] at hx
   obtain ⟨k, hk, rfl⟩ := hx
   have h1 := h.e k hk
   have h2 := h.c k hk
   have h3 := (fitsB_iff _ _).1 (he _ (getD_mem (d := default) (show k.toNat < g.edges.length by omega)))
   have i1 := indexI_in h2.1
   have i2 := indexI_in h2.2
   rw [fitsB_iff]
   simp only [exE1, exG, List.length_map]
   exact ⟨h3.1, ⟨i1.1, i1.2.1⟩, ⟨i2.1, i2.2.1⟩⟩
 refine ⟨validM_of ⟨hv, h.va, by simp [exG], by simp [exG], h.n, h.e, fun i hi => ?_, fun i hi => ?_⟩, nodup_of_lt h.sn, nodup_of_lt h.se⟩
 ·have hi' : i < p.nodes.length := by simpa [exG] using hi
  simp [exG, hi']
 ·have hi' : i < p.edges.length := by simpa [exG] using hi
  have e1 : (exG g p).edges.getD i default = exE1 g p (p.edges.getD i 0) := by simp [exG, hi']
  have h2 := h.c _ (getD_mem (d := 0) hi')
  rw [e1]
  simp only [exE1]
  rw [(indexI_in h2.1).2.2, (indexI_in h2.2).2.2]
def ascL (l : List Int) (n : Nat) : List Int := ((List.range n).filter fun (k : Nat) => decide ((k : Int) ∈ l)).map fun (k : Nat) => (k : Int)
def imgP (y : Gr) (q : Mo) : Mo := ⟨ascL q.nodes y.nodes.length, ascL q.edges y.edges.length⟩
def goneI (images keep : List Int) : List Int := ((List.range images.length).filter fun (i : Nat) => decide ((i : Int) ∉ keep)).map fun (i : Nat) => images.getD i 0
def restI (n : Nat) (images keep : List Int) : List Int := ((List.range n).filter fun (k : Nat) => decide ((k : Int) ∉ goneI images keep)).map fun (k : Nat) => (k : Int)
def cmpl (g : Gr) (keep m : Mo) : Mo := ⟨restI g.nodes.length m.nodes keep.nodes, restI g.edges.length m.edges keep.edges⟩
end Go.AM
namespace Go.AM
open Go
variable {P : Program}
theorem EffV.val {o : Oper} {ρ : Operand → AV} {box box' : Bxs} {tok tok' : Nat → Bool} {nt nt' : Nat} {v : AV} (h : EffV P o ρ box tok nt v box' tok' nt') : isVal o.op = true := by
 unfold EffV at h
 split at h
 ·rename_i c ho
  split at h
  ·rename_i f hf
   rw [ho]
   obtain ⟨cal, args, tys⟩ := c
   simp only at hf
   subst hf
   rfl
  ·exact h.elim
 ·exact h.elim
def FarP (S : AState) : List (Operand × Operand) → Prop
 | [] => True
 | (p, q) :: r => NK (S.ev p) (S.ev q) ∧ FarP S r
theorem FarP.at {S : AState} {p q : Operand} : ∀ {L : List (Operand × Operand)}, FarP S L → (p, q) ∈ L → NK (S.ev p) (S.ev q)
 | (a, b) :: r, h, hm => by
  rcases List.mem_cons.1 hm with e | hm
  ·cases e; exact h.1
  ·exact FarP.at h.2 hm
def StopW (P : Program) (o : Oper) (fid : FuncId) (args : List AV) (S : AState) (K : AState → Prop) : Prop :=
 (∃ v tok' nt', RCall P fid args S.box S.tok S.nt v tok' nt' ∧ K ⟨putT S.tmps o.dst v, S.box, tok', nt'⟩) ∨
 ∃ x k i off rows v tok' nt', callPtr o.op = some x ∧ S.ev x = .ptr k i off ∧ S.box k ≠ none ∧ WCall P fid args k S.box S.tok S.nt v rows tok' nt' ∧ K ⟨putT S.tmps o.dst v, upd S.box k (some rows), tok', nt'⟩
def FOneW (P : Program) (cx : Cx) (o : Oper) (K : AState → Prop) (S : AState) : Prop := match callFn o S.ev with
 | some (fid, args) => StopW P o fid args S K
 | none => FOne P cx true o K S
def FOpsW (P : Program) (cx : Cx) (ops : Array Oper) : List Oper → (AState → Prop) → AState → Prop
 | [], K, S => K S
 | o :: r, K, S => match o.guard with
  | none => FOneW P cx o (FOpsW P cx ops r K) S
  | some (j, want) => match yieldA ops S j with
   | some (some b) => Gd b want (FOneW P cx o (FOpsW P cx ops r K)) (FSkip o.dst (FOpsW P cx ops r K)) S
   | some none => FSkip o.dst (FOpsW P cx ops r K) S
   | none => False
def FRegW (P : Program) (cx : Cx) (ops : Array Oper) (K : AState → Prop) (S : AState) : Prop := match preF P cx.base ops.toList S.box with
 | some b => FOpsW P cx ops ops.toList K ⟨S.tmps, b, S.tok, S.nt⟩
 | none => False
theorem StopW.of_r {o : Oper} {fid : FuncId} {args : List AV} {S : AState} {K : AState → Prop} {v : AV} {tok' : Nat → Bool} {nt' : Nat} (h : RCall P fid args S.box S.tok S.nt v tok' nt') (hk : K ⟨putT S.tmps o.dst v, S.box, tok', nt'⟩) : StopW P o fid args S K := .inl ⟨v, tok', nt', h, hk⟩
theorem StopW.of_d {o : Oper} {fid : FuncId} {args : List AV} {S : AState} {K : AState → Prop} {v : AV} {tok' : Nat → Bool} {nt' : Nat} (h : DCall P fid args S.tok S.nt v tok' nt') (hk : K ⟨putT S.tmps o.dst v, S.box, tok', nt'⟩) : StopW P o fid args S K := .of_r (h.r _) hk
attribute [simp] FRegW FOneW callFn FarP
@[simp] theorem FOpsW_nil {cx : Cx} {ops : Array Oper} {K : AState → Prop} {t : Nat → AV} {b : Bxs} {k : Nat → Bool} {n : Nat} : FOpsW P cx ops [] K ⟨t, b, k, n⟩ = K ⟨t, b, k, n⟩ := by simp only [FOpsW]
@[simp] theorem FOpsW_cons {cx : Cx} {ops : Array Oper} {o : Oper} {r : List Oper} {K : AState → Prop} {t : Nat → AV} {b : Bxs} {k : Nat → Bool} {n : Nat} : FOpsW P cx ops (o :: r) K ⟨t, b, k, n⟩ = match o.guard with
  | none => FOneW P cx o (FOpsW P cx ops r K) ⟨t, b, k, n⟩
  | some (j, want) => match yieldA ops ⟨t, b, k, n⟩ j with
   | some (some g) => Gd g want (FOneW P cx o (FOpsW P cx ops r K)) (FSkip o.dst (FOpsW P cx ops r K)) ⟨t, b, k, n⟩
   | some none => FSkip o.dst (FOpsW P cx ops r K) ⟨t, b, k, n⟩
   | none => False := by
 simp only [FOpsW]
end Go.AM
namespace Go.AM
open Go Go.Proofs
abbrev nilS : AV := .osl 0 [] .full
abbrev z0i : AV := .d (.raw (.int .i64 0))
theorem ovF_yes {m mm : Mo} {H : Gr → Mo → St2 → Cd × St2} {o : Ov} {st : St2} (h : agrO m mm o = true) : ovF m mm H o st = ([exOf o (H o.g o.r (inc st.1, st.2)).1], (H o.g o.r (inc st.1, st.2)).2) := if_pos h
theorem ovF_no {m mm : Mo} {H : Gr → Mo → St2 → Cd × St2} {o : Ov} {st : St2} (h : ¬ agrO m mm o = true) : ovF m mm H o st = ([], st) := if_neg h
end Go.AM
namespace Go.AM
open Go Go.Proofs
theorem fit_nil : Gr.Fit ⟨[], []⟩ := ⟨by simp, by simp⟩
theorem fit_nilM : Mo.Fit ⟨[], []⟩ := ⟨by simp, by simp⟩
theorem cdOf_fit {k : Int} {l : List Cd} (hl : l.length ≤ kidN) (h : ∀ x ∈ l, x.Fit) : (cdOf k l).Fit := .mk hl fit_nilM fit_nil (by rw [bigN_eq]; simp [cdOf, Cd.sl]) (by rw [bigN_eq]; simp [cdOf, Cd.te]) h
theorem seqL_all {α : Type} {f : α → St2 → List Cd × St2} {P : Cd → Prop} : ∀ (l : List α) (s : St2), (∀ x ∈ l, ∀ s, ∀ y ∈ (f x s).1, P y) → ∀ y ∈ (seqL f l s).1, P y
 | [], s, _, y, hy => by simp [seqL] at hy
 | x :: r, s, h, y, hy => by
  simp only [seqL] at hy
  rcases List.mem_append.1 hy with hy | hy
  ·exact h x (by simp) s y hy
  ·exact seqL_all r _ (fun z hz => h z (by simp [hz])) y hy
end Go.AM
namespace Go.AM
open Go Go.Proofs
def lst {β : Type} (ok : Nat → Nat → Bool) (m : Nat) (fin : List Int → List β) : Nat → List Int → List β
 | 0, L => fin L
 | r + 1, L => (List.range m).flatMap fun (k : Nat) => if (!decide ((k : Int) ∈ L) && ok L.length k) = true then lst ok m fin r (L ++ [(k : Int)]) else []
def atB (by' of : List Int) (i k : Nat) : Bool := decide (indexI by' i < 0) || decide (of.getD (indexI by' i).toNat 0 = k)
def okXE (p g : Gr) (x m : Mo) (N : List Int) (i k : Nat) : Bool := decide (g.edges.getD k default = wantX p N i) && atB x.edges m.edges i k
def okXN (p g : Gr) (x m : Mo) (i k : Nat) : Bool := decide (g.nodes.getD k 0 = p.nodes.getD i 0) && atB x.nodes m.nodes i k
def exE (p g : Gr) (x m : Mo) (N : List Int) (r : Nat) (L : List Int) : List Mo := lst (okXE p g x m N) g.edges.length (fun E => [⟨N, E⟩]) r L
def exN (p g : Gr) (x m : Mo) (r : Nat) (L : List Int) : List Mo := lst (okXN p g x m) g.nodes.length (fun N => exE p g x m N p.edges.length []) r L
def exts (p g : Gr) (x m : Mo) : List Mo := exN p g x m p.nodes.length []
abbrev Mo.cells (m : Mo) : List D := [ints m.nodes, ints m.edges]
end Go.AM
namespace Go.AM
open Go Go.Proofs
end Go.AM
namespace Go.AM
open Go Go.Proofs
end Go.AM
namespace Go.AM
open Go Go.Proofs
inductive Cd.Bare : Cd → Prop
 | mk {c : Cd} (hs : c.sl = []) (ht : c.te = []) (h : ∀ x ∈ c.kids, Cd.Bare x) : Cd.Bare c
theorem Cd.Bare.sl {c : Cd} (h : c.Bare) : c.sl = [] := by cases h; assumption
theorem Cd.Bare.te {c : Cd} (h : c.Bare) : c.te = [] := by cases h; assumption
theorem Cd.Bare.kid {c : Cd} (h : c.Bare) : ∀ x ∈ c.kids, Cd.Bare x := by cases h; assumption
theorem bare_cdOf {k : Int} {l : List Cd} (h : ∀ x ∈ l, x.Bare) : (cdOf k l).Bare := .mk rfl rfl h
theorem shf_bare : ∀ (n : Nat) (c : Cd), SizeOf.sizeOf c < n → ∀ b m st, (c.shf b m st).1.Bare
 | 0, c, hn, _, _, _ => absurd hn (Nat.not_lt_zero _)
 | n + 1, c, hn, b, m, st => by
  have ih := fun x (hx : x ∈ c.kids) => shf_bare n x (by have := Cd.kid_lt hx; omega)
  rw [c.shf_eq]
  unfold shStep
  split
  ·exact bare_cdOf (by simp)
  ·split
   ·refine bare_cdOf (seqL_all _ _ fun x hx s y hy => ?_)
    simp only [shF, List.mem_singleton] at hy
    subst hy
    exact ih x hx b m s
   ·split
    ·exact bare_cdOf (by simp)
    ·refine bare_cdOf (seqL_all _ _ fun o ho s y hy => ?_)
     by_cases ha : agrO m c.m o = true
     ·rw [ovF_yes ha] at hy
      simp only [List.mem_singleton] at hy
      subst hy
      refine .mk rfl rfl fun z hz => ?_
      have hz' : z = (Cd.shfH c.kids o.g o.r (inc s.1, s.2)).1 := by simpa [exOf, Cd.kids] using hz
      subst hz'
      cases hk : c.kids with
      | nil => exact bare_cdOf (by simp)
      | cons x r => exact ih x (by rw [hk]; simp) o.g _ _
     ·rw [ovF_no ha] at hy
      simp at hy
def stS1 (c : Cd) (nb : Nat) (box : Bxs) (tok : Tks) (nt s : Nat) (_ : Unit) : AState :=
 ⟨tl [(s, I 0), (2, .ptr (nb + 2) 0 0), (3, .ptr (nb + 3) 0 0)], lb nb box [(3, [c.row]), (2, [c.row])], tok, nt⟩
def stS3 (c : Cd) (nb : Nat) (box : Bxs) (tok : Tks) (nt : Nat) (i : Nat) : AState :=
 ⟨tl [(7, I i), (2, .ptr (nb + 2) 0 0), (3, .ptr (nb + 3) 0 0)], lb nb box [(3, [c.row]), (2, [c.row])], tok, nt⟩
theorem same33_c : ∀ (n : Nat) (c : Cd), SizeOf.sizeOf c < n → c.Fit → c.Bare → ∀ (tok : Tks) (nt : Nat), DCall Tryz.prog 19 [c.av, c.av] tok nt (B true) tok nt
 | 0, c, hn, _, _, tok, nt => absurd hn (Nat.not_lt_zero _)
 | n + 1, c, hn, hf, hb, tok, nt => by
  intro box nb
  have ih := fun x (hx : x ∈ c.kids) => same33_c n x (by have := Cd.kid_lt hx; omega) (hf.kid x hx) (hb.kid x hx)
  have hkb := hf.kids
  rw [kidN_eq] at hkb
  have hm := same06_c c.m c.m hf.m
  have hg := same05_c c.g c.g hf.g
  have hs := hb.sl
  have ht := hb.te
  simp only [decide_true] at hm hg
  refine sB Tryz.func19 Tryz.ntmps19 ?_
  intro hbox htok
  simp only at hbox htok
  apply AL.start
  try (simp [hs, ht])
  repeat (refine sR ?_; simp [hs, ht])
  refine Stop.of_d (hm _ _) ?_
  simp [hs, ht]
  refine Stop.of_d (hg _ _) ?_
  simp [hs, ht]
  try (simp [hs, ht])
  repeat (refine sR ?_; simp [hs, ht])
  refine sC ?_
  simp
  try (simp)
  repeat (refine sR ?_; simp)
  refine sN ?_
  refine AL.loopT (stS1 c nb box tok nt 5) (fun _ : Unit => True) (fun _ => 0) () trivial (Weaks.mk (Nat.le_refl _) rfl (by simp [ToL, lk]) (by simp [BoxL, lk])) ?_
  rintro ⟨⟩ S _ hS
  simp only [stS1] at hS
  subst hS
  try (simp [hs, ht])
  repeat (refine sR ?_; simp [hs, ht])
  refine sC ?_
  simp
  refine sX ?_
  simp only [AU, ↓reduceIte]
  try (simp [hs, ht])
  repeat (refine sR ?_; simp [hs, ht])
  refine sN ?_
  refine AL.loopT (stS1 c nb box tok nt 6) (fun _ : Unit => True) (fun _ => 0) () trivial (Weaks.mk (Nat.le_refl _) rfl (by simp [ToL, lk]) (by simp [BoxL, lk])) ?_
  rintro ⟨⟩ S _ hS
  simp only [stS1] at hS
  subst hS
  try (simp [hs, ht])
  repeat (refine sR ?_; simp [hs, ht])
  refine sC ?_
  simp
  refine sX ?_
  simp only [AU, ↓reduceIte]
  try (simp [hs, ht])
  repeat (refine sR ?_; simp [hs, ht])
  refine sN ?_
  refine AL.loopT (stS3 c nb box tok nt) (fun i => i ≤ c.kids.length) (fun i => c.kids.length - i) 0 (Nat.zero_le _) (Weaks.mk (Nat.le_refl _) rfl (by simp [ToL, lk]) (by simp [BoxL, lk])) ?_
  rintro i S hi hS
  simp only [stS3] at hS
  subst hS
  have hw := sW (i := i) (by omega)
  try (simp)
  repeat (refine sR ?_; simp)
  refine sC ?_
  simp
  refine ⟨fun hlt => ?_, fun hge => ?_⟩
  ·have ihx := ih _ (List.getElem_mem hlt)
   try (simp [hlt, Cd.cells_eq])
   repeat (refine sR ?_; simp [hlt, Cd.cells_eq])
   generalize c.kids[i] = x at *
   refine Stop.of_d (ihx _ _) ?_
   simp
   try (simp)
   repeat (refine sR ?_; simp)
   refine sC ?_
   simp
   try (simp [hw])
   repeat (refine sR ?_; simp [hw])
   refine sE ?_
   exact ⟨i + 1, hlt, by omega, Weaks.mk (Nat.le_refl _) rfl (by simp [ToL, lk]) (by simp [BoxL, lk])⟩
  ·refine sX ?_
   simp only [AU, ↓reduceIte]
   try (simp)
   repeat (refine sR ?_; simp)
   refine sT ?_
   try simp only [AU]
   refine ⟨by simp, sF hbox htok (fun _ h => h) (Nat.le_refl _) ?_⟩
   simp [packA]
end Go.AM
namespace Go.AM
open Go Go.Proofs
@[simp] theorem lb_base (base : Nat) (out : Bxs) (loc : List (Nat × List (List AV))) : lb base out loc base = lk loc 0 := lb_at base 0 out loc
@[simp] theorem upd_lb_base (base : Nat) (out : Bxs) (loc : List (Nat × List (List AV))) (rows : List (List AV)) : upd (lb base out loc) base (some rows) = lb base out ((0, rows) :: loc) := upd_lb base 0 out loc rows
@[simp] theorem to_ptr_base {q : Nat → Prop} {fz : Option (Nat × Nat × List (List D))} {base i off : Nat} {out : Bxs} {loc : List (Nat × List (List AV))} : To (fun k => lb base out loc k ≠ none) q fz (.ptr base i off) (.ptr base i off) ↔ lk loc 0 ≠ none := to_ptr_lb (s := 0)
end Go.AM
namespace Go.AM
open Go Go.Proofs
abbrev bytes (l : List Int) : D := .sl 1 (l.map fun n => [u8 n])
def growS (st : List Int × List E) (c : Int) : List Int × List E :=
 if c % 2 = 0 ∨ st.1.length = 0 then (st.1 ++ [c / 2 % 3], st.2) else (st.1, st.2 ++ [⟨c / 2 % 2, c / 4 % st.1.length, c / 16 % st.1.length⟩])
def growK (g : Gr) (cs : List Int) (most i : Nat) : List Int × List E := ((cs.take most).take i).foldl growS (g.nodes, g.edges)
def growR (g : Gr) (cs : List Int) (most : Nat) : Gr := let r := growK g cs most cs.length; ⟨r.1, r.2⟩
end Go.AM
namespace Go.AM
open Go Go.Proofs
theorem Pre.trans {a b c : Gr} (h : Pre a b) (k : Pre b c) : Pre a c := by
 obtain ⟨t, ht⟩ := h.n
 obtain ⟨u, hu⟩ := h.e
 obtain ⟨t', ht'⟩ := k.n
 obtain ⟨u', hu'⟩ := k.e
 exact ⟨h.va, k.vb, ⟨t ++ t', by rw [ht', ht, List.append_assoc]⟩, ⟨u ++ u', by rw [hu', hu, List.append_assoc]⟩⟩
end Go.AM
namespace Go.AM
open Go
structure Sp where
 l : Gr
 r : Gr
 k : Mo
 i : Mo
structure SpOk (s : Sp) : Prop where
 k : VP s.l s.k
 i : Emb (exG s.l s.k) s.r s.i
def Sp.z (s : Sp) (m : Mo) (x : Gr) : Mo := cmpl x (imgP s.r s.i) m
theorem VP.sub {g : Gr} {p : Mo} (h : VP g p) : Emb (exG g p) g p := h.emb
end Go.AM
namespace Go.AM
open Go Go.Proofs
end Go.AM
namespace Go.AM
open Go Go.Proofs
end Go.AM
namespace Go.AM
open Go Go.Proofs
structure At where
 name : ByteArray
 lo : Int
 hi : Int
 names : List ByteArray
structure NT where
 name : ByteArray
 par : Int
 abs : Bool
 own : List At
structure ET where
 name : ByteArray
 fr : Int
 to : Int
 ol : Int
 oh : Int
 il : Int
 ih : Int
structure Ty where
 nodes : List NT
 edges : List ET
abbrev At.cells (a : At) : List D := [.raw (.string a.name), .raw (.int .i64 a.lo), .raw (.int .i64 a.hi), strs a.names]
abbrev atts (l : List At) : D := .sl 4 (l.map At.cells)
abbrev NT.cells (n : NT) : List D := [.raw (.string n.name), .raw (.int .i64 n.par), .raw (.bool n.abs), atts n.own]
abbrev ET.cells (e : ET) : List D := [.raw (.string e.name), .raw (.int .i64 e.fr), .raw (.int .i64 e.to), .raw (.int .i64 e.ol), .raw (.int .i64 e.oh), .raw (.int .i64 e.il), .raw (.int .i64 e.ih)]
abbrev nts (l : List NT) : D := .sl 4 (l.map NT.cells)
abbrev ets (l : List ET) : D := .sl 7 (l.map ET.cells)
abbrev Ty.av (t : Ty) : AV := .agg [.d (nts t.nodes), .d (ets t.edges)]
instance : Inhabited ByteArray := ⟨⟨#[]⟩⟩
abbrev eB : ByteArray := ⟨#[]⟩
def nmsAt (l : List ByteArray) (i : Nat) : Int := if nameB (l.getD i eB) = false then 2 else if memS (l.take i) (l.getD i eB) = true then 5 else 0
def nmsE (l : List ByteArray) : Int := if 20 < l.length then 3 else firstE (nmsAt l) l.length
structure NmFit (l : List ByteArray) : Prop where
 n : l.length ≤ 1000000
 s : ∀ x ∈ l, x.size ≤ 1000000000000
theorem strs_take (l : List ByteArray) (i : Nat) : strs (l.take i) = .sl 1 (List.take i (l.map fun s => [D.raw (.string s)])) := by rw [strs, List.map_take]
theorem memS_more {l : List ByteArray} {i : Nat} {v : ByteArray} (hi : i < l.length) (h : memS (l.take i) v = false) (hne : v ≠ l[i]) : memS (l.take (i + 1)) v = false := by
 rw [← Bool.not_eq_true, memS_iff] at h ⊢
 rw [List.take_succ_eq_append_getElem hi, List.mem_append, List.mem_singleton]
 exact fun h2 => h2.elim h hne
theorem memS_hit {l : List ByteArray} {k i : Nat} (hk : k < l.length) (hki : k < i) : memS (l.take i) l[k] = true := memS_iff.2 (by rw [List.mem_take_iff_getElem]; exact ⟨k, by omega, rfl⟩)
def stNm4 (l : List ByteArray) (nb : Nat) (box : Bxs) (tok : Tks) (nt : Nat) (i : Nat) : AState := ⟨tl [(3, I i), (0, .d (strs l))], lb nb box [], tok, nt⟩
def stNm5 (l : List ByteArray) (i : Nat) (nb : Nat) (box : Bxs) (tok : Tks) (nt : Nat) (k : Nat) : AState := ⟨tl [(4, I k), (3, I i), (0, .d (strs l))], lb nb box [], tok, nt⟩
def stNm (l : List ByteArray) (nb : Nat) (box : Bxs) (tok : Tks) (nt : Nat) (i : Nat) : AState := ⟨tl [(10, I i), (9, I l.length), (8, .d (strs l)), (0, .d (strs l))], lb nb box [], tok, nt⟩
theorem names_c (l : List ByteArray) (hl : NmFit l) (tok : Tks) (nt : Nat) : DCall Tryz.prog 262 [.d (strs l)] tok nt (I (nmsE l)) tok nt := by
 intro box nb
 have hln := hl.n
 by_cases h20 : 20 < l.length
 ·have h20' : (20 : Int) < l.length := by omega
  rw [show nmsE l = 3 from if_pos h20]
  refine sB Tryz.func262 Tryz.ntmps262 ?_
  intro hbox htok
  simp only at hbox htok
  apply AL.start
  try (simp [h20'])
  repeat (refine sR ?_; simp [h20'])
  refine sC ?_
  simp
  try (simp)
  repeat (refine sR ?_; simp)
  refine sT ?_
  try simp only [AU]
  refine ⟨by simp, sF hbox htok (fun _ h => h) (Nat.le_refl _) ?_⟩
  simp [packA]
 ·have h20' : ¬ (20 : Int) < l.length := by omega
  have hE : nmsE l = firstE (nmsAt l) l.length := if_neg h20
  refine sB Tryz.func262 Tryz.ntmps262 ?_
  intro hbox htok
  simp only at hbox htok
  apply AL.start
  try (simp [h20'])
  repeat (refine sR ?_; simp [h20'])
  refine sC ?_
  simp
  try (simp)
  repeat (refine sR ?_; simp)
  refine sN ?_
  refine AL.loopT (stNm l nb box tok nt) (fun i => i ≤ l.length ∧ firstE (nmsAt l) i = 0) (fun i => l.length - i) 0 ⟨Nat.zero_le _, rfl⟩ (Weaks.mk (Nat.le_refl _) rfl (by simp [ToL, lk]) trivial) ?_
  rintro i S' ⟨hi, hok⟩ hS
  simp only [stNm] at hS
  subst hS
  have hw := sW (i := i) (by omega)
  have hR : i < l.length → nmsAt l i ≠ 0 → firstE (nmsAt l) l.length = nmsAt l i := fun hlt h0 => firstE_stop hok h0 l.length hlt
  try (simp)
  repeat (refine sR ?_; simp)
  refine sC ?_
  simp
  refine ⟨fun hlt => ?_, fun hge => ?_⟩
  ·have hg : l.getD i eB = l[i] := by simp [hlt]
   have hA : nmsAt l i = if nameB l[i] = false then 2 else if memS (l.take i) l[i] = true then 5 else 0 := by rw [nmsAt, hg]
   have hn := isName_c l[i] (Nat.le_trans (hl.s _ (List.getElem_mem hlt)) (by decide))
   have hc := containsS_c (l.take i) l[i] (by simp; omega)
   have hR := hR hlt
   try (simp [hlt, strs_at hlt])
   repeat (refine sR ?_; simp [hlt, strs_at hlt])
   refine Stop.of_d (hn _ _) ?_
   simp
   cases e1 : nameB l[i]
   ·rw [e1, if_pos rfl] at hA
    rw [hA] at hR
    have hR := hR (by decide)
    try (simp)
    repeat (refine sR ?_; simp)
    refine sC ?_
    simp
    try (simp)
    repeat (refine sR ?_; simp)
    refine sT ?_
    try simp only [AU]
    refine ⟨by simp, sF hbox htok (fun _ h => h) (Nat.le_refl _) ?_⟩
    simp [packA, hE, hR]
   ·rw [e1, if_neg (by simp)] at hA
    try (simp)
    repeat (refine sR ?_; simp)
    refine sC ?_
    simp
    try (simp)
    repeat (refine sR ?_; simp)
    refine ⟨by omega, ?_⟩
    rw [strs_take] at hc
    refine Stop.of_d (hc _ _) ?_
    simp
    cases e2 : memS (l.take i) l[i]
    ·rw [e2, if_neg (by simp)] at hA
     try (simp)
     repeat (refine sR ?_; simp)
     refine sC ?_
     simp
     try (simp [hw])
     repeat (refine sR ?_; simp [hw])
     refine sE ?_
     exact ⟨i + 1, ⟨hlt, by simp only [firstE, hok, hA, ↓reduceIte]⟩, by omega, Weaks.mk (Nat.le_refl _) rfl (by simp [ToL, lk]) trivial⟩
    ·rw [e2, if_pos rfl] at hA
     rw [hA] at hR
     have hR := hR (by decide)
     try (simp)
     repeat (refine sR ?_; simp)
     refine sC ?_
     simp
     try (simp)
     repeat (refine sR ?_; simp)
     refine sT ?_
     try simp only [AU]
     refine ⟨by simp, sF hbox htok (fun _ h => h) (Nat.le_refl _) ?_⟩
     simp [packA, hE, hR]
  ·refine sX ?_
   simp only [AU, ↓reduceIte]
   try (simp)
   repeat (refine sR ?_; simp)
   have : i = l.length := by omega
   subst this
   refine sT ?_
   try simp only [AU]
   refine ⟨by simp, sF hbox htok (fun _ h => h) (Nat.le_refl _) ?_⟩
   simp [packA, hE, hok]
theorem names04_c (l : List ByteArray) (hl : NmFit l) (tok : Tks) (nt : Nat) : DCall Tryz.prog 264 [.d (strs l)] tok nt (I (nmsE l)) tok nt := by
 intro box nb
 have hln := hl.n
 by_cases h20 : 20 < l.length
 ·have h20' : (20 : Int) < l.length := by omega
  rw [show nmsE l = 3 from if_pos h20]
  refine sB Tryz.func264 Tryz.ntmps264 ?_
  intro hbox htok
  simp only at hbox htok
  apply AL.start
  try (simp [h20'])
  repeat (refine sR ?_; simp [h20'])
  refine sC ?_
  simp
  try (simp)
  repeat (refine sR ?_; simp)
  refine sT ?_
  try simp only [AU]
  refine ⟨by simp, sF hbox htok (fun _ h => h) (Nat.le_refl _) ?_⟩
  simp [packA]
 ·have h20' : ¬ (20 : Int) < l.length := by omega
  have hE : nmsE l = firstE (nmsAt l) l.length := if_neg h20
  refine sB Tryz.func264 Tryz.ntmps264 ?_
  intro hbox htok
  simp only at hbox htok
  apply AL.start
  try (simp [h20'])
  repeat (refine sR ?_; simp [h20'])
  refine sC ?_
  simp
  try (simp)
  repeat (refine sR ?_; simp)
  refine sN ?_
  refine AL.loopT (stNm4 l nb box tok nt) (fun i => i ≤ l.length ∧ firstE (nmsAt l) i = 0) (fun i => l.length - i) 0 ⟨Nat.zero_le _, rfl⟩ (Weaks.mk (Nat.le_refl _) rfl (by simp [ToL, lk]) trivial) ?_
  rintro i S' ⟨hi, hok⟩ hS
  simp only [stNm4] at hS
  subst hS
  have hw := sW (i := i) (by omega)
  have hR : i < l.length → nmsAt l i ≠ 0 → firstE (nmsAt l) l.length = nmsAt l i := fun hlt h0 => firstE_stop hok h0 l.length hlt
  try (simp)
  repeat (refine sR ?_; simp)
  refine sC ?_
  simp
  refine ⟨fun hlt => ?_, fun hge => ?_⟩
  ·have hg : l.getD i eB = l[i] := by simp [hlt]
   have hA : nmsAt l i = if nameB l[i] = false then 2 else if memS (l.take i) l[i] = true then 5 else 0 := by rw [nmsAt, hg]
   have hn := isName01_c l[i] (Nat.le_trans (hl.s _ (List.getElem_mem hlt)) (by decide))
   have hR := hR hlt
   try (simp [hlt, strs_at hlt])
   repeat (refine sR ?_; simp [hlt, strs_at hlt])
   refine Stop.of_d (hn _ _) ?_
   simp
   cases e1 : nameB l[i]
   ·rw [e1, if_pos rfl] at hA
    rw [hA] at hR
    have hR := hR (by decide)
    try (simp)
    repeat (refine sR ?_; simp)
    refine sC ?_
    simp
    try (simp)
    repeat (refine sR ?_; simp)
    refine sT ?_
    try simp only [AU]
    refine ⟨by simp, sF hbox htok (fun _ h => h) (Nat.le_refl _) ?_⟩
    simp [packA, hE, hR]
   ·rw [e1, if_neg (by simp)] at hA
    try (simp)
    repeat (refine sR ?_; simp)
    refine sC ?_
    simp
    try (simp)
    repeat (refine sR ?_; simp)
    refine sN ?_
    refine AL.loopT (stNm5 l i nb box tok nt) (fun k => k ≤ i ∧ memS (l.take k) l[i] = false) (fun k => i - k) 0 ⟨Nat.zero_le _, rfl⟩ (Weaks.mk (Nat.le_refl _) rfl (by simp [ToL, lk]) trivial) ?_
    rintro k S' ⟨hk, hm⟩ hS
    simp only [stNm5] at hS
    subst hS
    have hwk := sW (i := k) (by omega)
    try (simp)
    repeat (refine sR ?_; simp)
    refine sC ?_
    simp
    refine ⟨fun hlk => ?_, fun hge => ?_⟩
    ·have hkl : k < l.length := by omega
     by_cases e2 : l[k] = l[i]
     ·have b2 : (l[k].toList == l[i].toList) = true := by rw [seq_dec]; simp [e2]
      have hmm := memS_hit hkl hlk
      rw [e2] at hmm
      rw [if_pos hmm] at hA
      rw [hA] at hR
      have hR := hR (by decide)
      try (simp [hlt, hkl, b2])
      repeat (refine sR ?_; simp [hlt, hkl, b2])
      refine sC ?_
      simp
      try (simp)
      repeat (refine sR ?_; simp)
      refine sT ?_
      try simp only [AU]
      refine ⟨by simp, sF hbox htok (fun _ h => h) (Nat.le_refl _) ?_⟩
      simp [packA, hE, hR]
     ·have b2 : (l[k].toList == l[i].toList) = false := by rw [seq_dec]; simp [e2]
      try (simp [hlt, hkl, b2])
      repeat (refine sR ?_; simp [hlt, hkl, b2])
      refine sC ?_
      simp
      try (simp [hwk])
      repeat (refine sR ?_; simp [hwk])
      refine sE ?_
      exact ⟨k + 1, ⟨hlk, memS_more hkl hm fun h => e2 h.symm⟩, by omega, Weaks.mk (Nat.le_refl _) rfl (by simp [ToL, lk]) trivial⟩
    ·refine sX ?_
     simp only [AU, ↓reduceIte]
     have : k = i := by omega
     subst this
     rw [if_neg (by simp [hm])] at hA
     try (simp [hw])
     repeat (refine sR ?_; simp [hw])
     refine sE ?_
     exact ⟨k + 1, ⟨hlt, by simp only [firstE, hok, hA, ↓reduceIte]⟩, by omega, Weaks.mk (Nat.le_refl _) rfl (by simp [ToL, lk]) trivial⟩
  ·refine sX ?_
   simp only [AU, ↓reduceIte]
   try (simp)
   repeat (refine sR ?_; simp)
   have : i = l.length := by omega
   subst this
   refine sT ?_
   try simp only [AU]
   refine ⟨by simp, sF hbox htok (fun _ h => h) (Nat.le_refl _) ?_⟩
   simp [packA, hE, hok]
end Go.AM
namespace Go.AM
open Go Go.Proofs
abbrev At.av (a : At) : AV := .agg [Sb a.name, I a.lo, I a.hi, .d (strs a.names)]
abbrev NT.av (n : NT) : AV := .agg [Sb n.name, I n.par, B n.abs, .d (atts n.own)]
abbrev ET.av (e : ET) : AV := .agg [Sb e.name, I e.fr, I e.to, I e.ol, I e.oh, I e.il, I e.ih]
theorem any_takeG {α : Type} {p : α → Bool} {xs : List α} {i : Nat} (h : i < xs.length) (h1 : ∀ x ∈ xs.take i, p x = false) (h2 : p xs[i] = true) : anyB p xs = true ∧ xs.findIdx p = i := by
 refine ⟨List.any_eq_true.2 ⟨_, List.getElem_mem h, h2⟩, ?_⟩
 rw [List.findIdx_eq h]
 refine ⟨h2, fun j hj => ?_⟩
 have := h1 xs[j] (by
  rw [List.mem_take_iff_getElem]
  exact ⟨j, by omega, rfl⟩)
 simpa using this
def stIA (xs : List At) (f : FuncId) (caps : List AV) (nb : Nat) (box : Bxs) (tok : Tks) (nt : Nat) (i : Nat) : AState := ⟨tl [(0, .d (atts xs)), (1, .fn (.func f) caps), (7, I xs.length), (8, I i)], lb nb box [], tok, nt⟩
theorem indexFuncA_c (xs : List At) (f : FuncId) (caps : List AV) (p : At → Bool) (hx : xs.length ≤ 1000000) (box : Bxs) (nb : Nat) (tok : Tks) (nt : Nat) (hc : ∀ c ∈ caps, OkIn (fun k => box k ≠ none) (fun _ => True) c)
  (hf : ∀ x ∈ xs, ∀ box' nb', Ext box box' → ACalls Tryz.prog f (x.av :: caps) ⟨box', nb', tok, nt⟩ fun v m => v = B (p x) ∧ m = ⟨box', nb', tok, nt⟩) :
  ACalls Tryz.prog 292 [.d (atts xs), .fn (.func f) caps] ⟨box, nb, tok, nt⟩ fun v m => v = I (if anyB p xs = true then (xs.findIdx p : Nat) else -1) ∧ m = ⟨box, nb, tok, nt⟩ := by
 refine sB Tryz.func292 Tryz.ntmps292 ?_
 intro hbox htok
 simp only at hbox htok
 apply AL.start
 try (simp)
 repeat (refine sR ?_; simp)
 refine sN ?_
 refine AL.loopT (stIA xs f caps nb box tok nt) (fun i => i ≤ xs.length ∧ ∀ x ∈ xs.take i, p x = false) (fun i => xs.length - i) 0 ⟨Nat.zero_le _, by simp⟩ (Weaks.mk (Nat.le_refl _) rfl (by simp [ToL]; exact .same (okFn hc hbox [] (by simp) rfl _)) trivial) ?_
 rintro i S' ⟨hi, htk⟩ hS
 simp only [stIA] at hS
 subst hS
 have hw := sW (i := i) (by omega)
 try (simp)
 repeat (refine sR ?_; simp)
 refine sC ?_
 simp
 refine ⟨fun hlt => ?_, fun hge => ?_⟩
 ·have hfx := hf xs[i] (List.getElem_mem _)
  have hpx : p xs[i] = true → anyB p xs = true ∧ (xs.findIdx p = i) := fun he => any_takeG hlt htk he
  have hmore : p xs[i] = false → ∀ x ∈ xs.take (i + 1), p x = false := fun he x hx => by
   rw [List.take_succ_eq_append_getElem hlt] at hx
   rcases List.mem_append.1 hx with hx | hx
   ·exact htk x hx
   ·simp at hx; rw [hx]; exact he
  try (simp [hlt])
  repeat (refine sR ?_; simp [hlt])
  generalize xs[i] = x at *
  refine Stop.of_b (hfx _ _ ((Ext.refl box).lb hbox [])) ?_
  simp
  cases he : p x
  ·refine sC ?_
   simp
   try (simp [hw])
   repeat (refine sR ?_; simp [hw])
   refine sE ?_
   refine ⟨i + 1, ⟨hlt, ?_⟩, by omega, Weaks.mk (Nat.le_refl _) rfl (by simp [ToL]; exact .same (okFn hc hbox [] (by simp) rfl _)) trivial⟩
   exact hmore he
  ·obtain ⟨h1, h2⟩ := hpx he
   refine sC ?_
   simp
   try (simp)
   repeat (refine sR ?_; simp)
   refine sT ?_
   try simp only [AU]
   refine ⟨by simp, sF hbox htok (fun _ h => h) (Nat.le_refl _) ?_⟩
   simp [packA, h1, h2]
 ·have hn : anyB p xs = false := by
   rw [List.take_of_length_le hge] at htk
   simpa [anyB] using htk
  refine sX ?_
  simp only [AU, ↓reduceIte]
  try (simp)
  repeat (refine sR ?_; simp)
  refine sT ?_
  try simp only [AU]
  refine ⟨by simp, sF hbox htok (fun _ h => h) (Nat.le_refl _) ?_⟩
  simp [packA, hn]
theorem containsFuncA_c (xs : List At) (f : FuncId) (caps : List AV) (p : At → Bool) (hx : xs.length ≤ 1000000) (box : Bxs) (nb : Nat) (tok : Tks) (nt : Nat) (hc : ∀ c ∈ caps, OkIn (fun k => box k ≠ none) (fun _ => True) c)
  (hf : ∀ x ∈ xs, ∀ box' nb', Ext box box' → ACalls Tryz.prog f (x.av :: caps) ⟨box', nb', tok, nt⟩ fun v m => v = B (p x) ∧ m = ⟨box', nb', tok, nt⟩) :
  ACalls Tryz.prog 260 [.d (atts xs), .fn (.func f) caps] ⟨box, nb, tok, nt⟩ fun v m => v = B (anyB p xs) ∧ m = ⟨box, nb, tok, nt⟩ := by
 obtain ⟨A, hany⟩ : ∃ A, anyB p xs = A := ⟨_, rfl⟩
 have hi := fun b nb' h1 h2 => indexFuncA_c xs f caps p hx b nb' tok nt h1 h2
 rw [hany]
 simp only [hany] at hi
 refine sB Tryz.func260 Tryz.ntmps260 ?_
 intro hbox htok
 simp only at hbox htok
 apply AL.start
 try (simp)
 repeat (refine sR ?_; simp)
 refine Stop.of_b (hi (lb nb box []) _ (fun c h => (hc c h).mono (fun k hk => by rw [hbox]; exact hk) fun _ h => h) (fun x hx' box' nb' he => hf x hx' box' nb' (by rw [hbox] at he; exact he))) ?_
 simp
 cases A
 ·try (simp)
  repeat (refine sR ?_; simp)
  refine sT ?_
  try simp only [AU]
  refine ⟨by simp, sF hbox htok (fun _ h => h) (Nat.le_refl _) ?_⟩
  simp [packA]
 ·have h0 : (0 : Int) ≤ (xs.findIdx p : Nat) := by omega
  try (simp)
  repeat (refine sR ?_; simp)
  refine sT ?_
  try simp only [AU]
  refine ⟨by simp, sF hbox htok (fun _ h => h) (Nat.le_refl _) ?_⟩
  simp [packA, h0]
def stIN (xs : List NT) (f : FuncId) (caps : List AV) (nb : Nat) (box : Bxs) (tok : Tks) (nt : Nat) (i : Nat) : AState := ⟨tl [(0, .d (nts xs)), (1, .fn (.func f) caps), (7, I xs.length), (8, I i)], lb nb box [], tok, nt⟩
theorem indexFuncN_c (xs : List NT) (f : FuncId) (caps : List AV) (p : NT → Bool) (hx : xs.length ≤ 1000000) (box : Bxs) (nb : Nat) (tok : Tks) (nt : Nat) (hc : ∀ c ∈ caps, OkIn (fun k => box k ≠ none) (fun _ => True) c)
  (hf : ∀ x ∈ xs, ∀ box' nb', Ext box box' → ACalls Tryz.prog f (x.av :: caps) ⟨box', nb', tok, nt⟩ fun v m => v = B (p x) ∧ m = ⟨box', nb', tok, nt⟩) :
  ACalls Tryz.prog 234 [.d (nts xs), .fn (.func f) caps] ⟨box, nb, tok, nt⟩ fun v m => v = I (if anyB p xs = true then (xs.findIdx p : Nat) else -1) ∧ m = ⟨box, nb, tok, nt⟩ := by
 refine sB Tryz.func234 Tryz.ntmps234 ?_
 intro hbox htok
 simp only at hbox htok
 apply AL.start
 try (simp)
 repeat (refine sR ?_; simp)
 refine sN ?_
 refine AL.loopT (stIN xs f caps nb box tok nt) (fun i => i ≤ xs.length ∧ ∀ x ∈ xs.take i, p x = false) (fun i => xs.length - i) 0 ⟨Nat.zero_le _, by simp⟩ (Weaks.mk (Nat.le_refl _) rfl (by simp [ToL]; exact .same (okFn hc hbox [] (by simp) rfl _)) trivial) ?_
 rintro i S' ⟨hi, htk⟩ hS
 simp only [stIN] at hS
 subst hS
 have hw := sW (i := i) (by omega)
 try (simp)
 repeat (refine sR ?_; simp)
 refine sC ?_
 simp
 refine ⟨fun hlt => ?_, fun hge => ?_⟩
 ·have hfx := hf xs[i] (List.getElem_mem _)
  have hpx : p xs[i] = true → anyB p xs = true ∧ (xs.findIdx p = i) := fun he => any_takeG hlt htk he
  have hmore : p xs[i] = false → ∀ x ∈ xs.take (i + 1), p x = false := fun he x hx => by
   rw [List.take_succ_eq_append_getElem hlt] at hx
   rcases List.mem_append.1 hx with hx | hx
   ·exact htk x hx
   ·simp at hx; rw [hx]; exact he
  try (simp [hlt])
  repeat (refine sR ?_; simp [hlt])
  generalize xs[i] = x at *
  refine Stop.of_b (hfx _ _ ((Ext.refl box).lb hbox [])) ?_
  simp
  cases he : p x
  ·refine sC ?_
   simp
   try (simp [hw])
   repeat (refine sR ?_; simp [hw])
   refine sE ?_
   refine ⟨i + 1, ⟨hlt, ?_⟩, by omega, Weaks.mk (Nat.le_refl _) rfl (by simp [ToL]; exact .same (okFn hc hbox [] (by simp) rfl _)) trivial⟩
   exact hmore he
  ·obtain ⟨h1, h2⟩ := hpx he
   refine sC ?_
   simp
   try (simp)
   repeat (refine sR ?_; simp)
   refine sT ?_
   try simp only [AU]
   refine ⟨by simp, sF hbox htok (fun _ h => h) (Nat.le_refl _) ?_⟩
   simp [packA, h1, h2]
 ·have hn : anyB p xs = false := by
   rw [List.take_of_length_le hge] at htk
   simpa [anyB] using htk
  refine sX ?_
  simp only [AU, ↓reduceIte]
  try (simp)
  repeat (refine sR ?_; simp)
  refine sT ?_
  try simp only [AU]
  refine ⟨by simp, sF hbox htok (fun _ h => h) (Nat.le_refl _) ?_⟩
  simp [packA, hn]
theorem containsFuncN_c (xs : List NT) (f : FuncId) (caps : List AV) (p : NT → Bool) (hx : xs.length ≤ 1000000) (box : Bxs) (nb : Nat) (tok : Tks) (nt : Nat) (hc : ∀ c ∈ caps, OkIn (fun k => box k ≠ none) (fun _ => True) c)
  (hf : ∀ x ∈ xs, ∀ box' nb', Ext box box' → ACalls Tryz.prog f (x.av :: caps) ⟨box', nb', tok, nt⟩ fun v m => v = B (p x) ∧ m = ⟨box', nb', tok, nt⟩) :
  ACalls Tryz.prog 169 [.d (nts xs), .fn (.func f) caps] ⟨box, nb, tok, nt⟩ fun v m => v = B (anyB p xs) ∧ m = ⟨box, nb, tok, nt⟩ := by
 obtain ⟨A, hany⟩ : ∃ A, anyB p xs = A := ⟨_, rfl⟩
 have hi := fun b nb' h1 h2 => indexFuncN_c xs f caps p hx b nb' tok nt h1 h2
 rw [hany]
 simp only [hany] at hi
 refine sB Tryz.func169 Tryz.ntmps169 ?_
 intro hbox htok
 simp only at hbox htok
 apply AL.start
 try (simp)
 repeat (refine sR ?_; simp)
 refine Stop.of_b (hi (lb nb box []) _ (fun c h => (hc c h).mono (fun k hk => by rw [hbox]; exact hk) fun _ h => h) (fun x hx' box' nb' he => hf x hx' box' nb' (by rw [hbox] at he; exact he))) ?_
 simp
 cases A
 ·try (simp)
  repeat (refine sR ?_; simp)
  refine sT ?_
  try simp only [AU]
  refine ⟨by simp, sF hbox htok (fun _ h => h) (Nat.le_refl _) ?_⟩
  simp [packA]
 ·have h0 : (0 : Int) ≤ (xs.findIdx p : Nat) := by omega
  try (simp)
  repeat (refine sR ?_; simp)
  refine sT ?_
  try simp only [AU]
  refine ⟨by simp, sF hbox htok (fun _ h => h) (Nat.le_refl _) ?_⟩
  simp [packA, h0]
def stIE2 (xs : List ET) (f : FuncId) (caps : List AV) (nb : Nat) (box : Bxs) (tok : Tks) (nt : Nat) (i : Nat) : AState := ⟨tl [(0, .d (ets xs)), (1, .fn (.func f) caps), (7, I xs.length), (8, I i)], lb nb box [], tok, nt⟩
theorem indexFuncE2_c (xs : List ET) (f : FuncId) (caps : List AV) (p : ET → Bool) (hx : xs.length ≤ 1000000) (box : Bxs) (nb : Nat) (tok : Tks) (nt : Nat) (hc : ∀ c ∈ caps, OkIn (fun k => box k ≠ none) (fun _ => True) c)
  (hf : ∀ x ∈ xs, ∀ box' nb', Ext box box' → ACalls Tryz.prog f (x.av :: caps) ⟨box', nb', tok, nt⟩ fun v m => v = B (p x) ∧ m = ⟨box', nb', tok, nt⟩) :
  ACalls Tryz.prog 263 [.d (ets xs), .fn (.func f) caps] ⟨box, nb, tok, nt⟩ fun v m => v = I (if anyB p xs = true then (xs.findIdx p : Nat) else -1) ∧ m = ⟨box, nb, tok, nt⟩ := by
 refine sB Tryz.func263 Tryz.ntmps263 ?_
 intro hbox htok
 simp only at hbox htok
 apply AL.start
 try (simp)
 repeat (refine sR ?_; simp)
 refine sN ?_
 refine AL.loopT (stIE2 xs f caps nb box tok nt) (fun i => i ≤ xs.length ∧ ∀ x ∈ xs.take i, p x = false) (fun i => xs.length - i) 0 ⟨Nat.zero_le _, by simp⟩ (Weaks.mk (Nat.le_refl _) rfl (by simp [ToL]; exact .same (okFn hc hbox [] (by simp) rfl _)) trivial) ?_
 rintro i S' ⟨hi, htk⟩ hS
 simp only [stIE2] at hS
 subst hS
 have hw := sW (i := i) (by omega)
 try (simp)
 repeat (refine sR ?_; simp)
 refine sC ?_
 simp
 refine ⟨fun hlt => ?_, fun hge => ?_⟩
 ·have hfx := hf xs[i] (List.getElem_mem _)
  have hpx : p xs[i] = true → anyB p xs = true ∧ (xs.findIdx p = i) := fun he => any_takeG hlt htk he
  have hmore : p xs[i] = false → ∀ x ∈ xs.take (i + 1), p x = false := fun he x hx => by
   rw [List.take_succ_eq_append_getElem hlt] at hx
   rcases List.mem_append.1 hx with hx | hx
   ·exact htk x hx
   ·simp at hx; rw [hx]; exact he
  try (simp [hlt])
  repeat (refine sR ?_; simp [hlt])
  generalize xs[i] = x at *
  refine Stop.of_b (hfx _ _ ((Ext.refl box).lb hbox [])) ?_
  simp
  cases he : p x
  ·refine sC ?_
   simp
   try (simp [hw])
   repeat (refine sR ?_; simp [hw])
   refine sE ?_
   refine ⟨i + 1, ⟨hlt, ?_⟩, by omega, Weaks.mk (Nat.le_refl _) rfl (by simp [ToL]; exact .same (okFn hc hbox [] (by simp) rfl _)) trivial⟩
   exact hmore he
  ·obtain ⟨h1, h2⟩ := hpx he
   refine sC ?_
   simp
   try (simp)
   repeat (refine sR ?_; simp)
   refine sT ?_
   try simp only [AU]
   refine ⟨by simp, sF hbox htok (fun _ h => h) (Nat.le_refl _) ?_⟩
   simp [packA, h1, h2]
 ·have hn : anyB p xs = false := by
   rw [List.take_of_length_le hge] at htk
   simpa [anyB] using htk
  refine sX ?_
  simp only [AU, ↓reduceIte]
  try (simp)
  repeat (refine sR ?_; simp)
  refine sT ?_
  try simp only [AU]
  refine ⟨by simp, sF hbox htok (fun _ h => h) (Nat.le_refl _) ?_⟩
  simp [packA, hn]
theorem containsFuncE2_c (xs : List ET) (f : FuncId) (caps : List AV) (p : ET → Bool) (hx : xs.length ≤ 1000000) (box : Bxs) (nb : Nat) (tok : Tks) (nt : Nat) (hc : ∀ c ∈ caps, OkIn (fun k => box k ≠ none) (fun _ => True) c)
  (hf : ∀ x ∈ xs, ∀ box' nb', Ext box box' → ACalls Tryz.prog f (x.av :: caps) ⟨box', nb', tok, nt⟩ fun v m => v = B (p x) ∧ m = ⟨box', nb', tok, nt⟩) :
  ACalls Tryz.prog 215 [.d (ets xs), .fn (.func f) caps] ⟨box, nb, tok, nt⟩ fun v m => v = B (anyB p xs) ∧ m = ⟨box, nb, tok, nt⟩ := by
 obtain ⟨A, hany⟩ : ∃ A, anyB p xs = A := ⟨_, rfl⟩
 have hi := fun b nb' h1 h2 => indexFuncE2_c xs f caps p hx b nb' tok nt h1 h2
 rw [hany]
 simp only [hany] at hi
 refine sB Tryz.func215 Tryz.ntmps215 ?_
 intro hbox htok
 simp only at hbox htok
 apply AL.start
 try (simp)
 repeat (refine sR ?_; simp)
 refine Stop.of_b (hi (lb nb box []) _ (fun c h => (hc c h).mono (fun k hk => by rw [hbox]; exact hk) fun _ h => h) (fun x hx' box' nb' he => hf x hx' box' nb' (by rw [hbox] at he; exact he))) ?_
 simp
 cases A
 ·try (simp)
  repeat (refine sR ?_; simp)
  refine sT ?_
  try simp only [AU]
  refine ⟨by simp, sF hbox htok (fun _ h => h) (Nat.le_refl _) ?_⟩
  simp [packA]
 ·have h0 : (0 : Int) ≤ (xs.findIdx p : Nat) := by omega
  try (simp)
  repeat (refine sR ?_; simp)
  refine sT ?_
  try simp only [AU]
  refine ⟨by simp, sF hbox htok (fun _ h => h) (Nat.le_refl _) ?_⟩
  simp [packA, h0]
end Go.AM
namespace Go.AM
open Go Go.Proofs
abbrev At.row (a : At) : List AV := [Sb a.name, I a.lo, I a.hi, .d (strs a.names)]
theorem attr1_c (x y : At) (box : Bxs) (nb k : Nat) (tok : Tks) (nt : Nat) (h1 : box k = some [x.row]) :
  ACalls Tryz.prog 261 [y.av, .ptr k 0 0] ⟨box, nb, tok, nt⟩ fun v m => v = B (decide (y.name = x.name)) ∧ m = ⟨box, nb, tok, nt⟩ := by
 refine sB Tryz.func261 Tryz.ntmps261 ?_
 intro hbox htok
 simp only at hbox htok
 apply AL.start
 have k1n := key_lt hbox h1
 rw [← seq_dec]
 try (simp [lb_out k1n, h1])
 repeat (refine sR ?_; simp [lb_out k1n, h1])
 refine sT ?_
 try simp only [AU]
 refine ⟨by simp, sF hbox htok (fun _ h => h) (Nat.le_refl _) ?_⟩
 simp [packA]
def rngA (x : At) : Bool := if x.names.length = 0 then decide (-1000000 ≤ x.lo ∧ x.lo ≤ x.hi ∧ x.hi ≤ 1000000) else decide (x.lo = 0 ∧ x.hi = (x.names.length : Int) - 1)
def attE (x : At) (before : List At) : Int := if nameB x.name = false then 2 else if anyB (fun y => decide (y.name = x.name)) before = true then 5 else if nmsE x.names ≠ 0 then nmsE x.names else if rngA x = true then 0 else 6
structure At.Fit (a : At) : Prop where
 n : a.name.size ≤ 1000000000000
 l : NmFit a.names
theorem attribute_c (x : At) (before : List At) (hx : x.Fit) (hb : before.length ≤ 1000000) (tok : Tks) (nt : Nat) : DCall Tryz.prog 213 [x.av, .d (atts before)] tok nt (I (attE x before)) tok nt := by
 intro box nb
 have h1 := isName_c x.name (Nat.le_trans hx.n (by decide))
 have h3 := names_c x.names hx.l
 cases e1 : nameB x.name
 ·rw [e1] at h1
  rw [show attE x before = 2 by rw [attE, if_pos e1]]
  refine sB Tryz.func213 Tryz.ntmps213 ?_
  intro hbox htok
  simp only at hbox htok
  apply AL.start
  try (simp)
  repeat (refine sR ?_; simp)
  refine Stop.of_d (h1 _ _) ?_
  simp
  try (simp)
  repeat (refine sR ?_; simp)
  refine sC ?_
  simp
  try (simp)
  repeat (refine sR ?_; simp)
  refine sT ?_
  try simp only [AU]
  refine ⟨by simp, sF hbox htok (fun _ h => h) (Nat.le_refl _) ?_⟩
  simp [packA]
 ·rw [e1] at h1
  have hA : attE x before = if anyB (fun y => decide (y.name = x.name)) before = true then 5 else if nmsE x.names ≠ 0 then nmsE x.names else if rngA x = true then 0 else 6 := by rw [attE, if_neg (by simp [e1])]
  obtain ⟨N, hN⟩ : ∃ N, attE x before = N := ⟨_, rfl⟩
  rw [hN] at hA ⊢
  obtain ⟨p, hp⟩ : ∃ p : At → Bool, (fun y => decide (y.name = x.name)) = p := ⟨_, rfl⟩
  have h2 := fun y box nb k h => attr1_c x y box nb k tok nt h
  have hpp : ∀ y : At, decide (y.name = x.name) = p y := fun y => by rw [← hp]
  simp only [hpp] at h2
  rw [hp] at hA
  have hcap : ∀ c ∈ [AV.ptr (nb + 2) 0 0], OkIn (fun k => (lb nb box [(2, [x.row])]) k ≠ none) (fun _ => True) c := by
   intro c hc
   rw [List.mem_singleton.1 hc]
   simp [lb_at]
  refine sB Tryz.func213 Tryz.ntmps213 ?_
  intro hbox htok
  simp only at hbox htok
  apply AL.start
  try (simp)
  repeat (refine sR ?_; simp)
  refine Stop.of_d (h1 _ _) ?_
  simp
  try (simp)
  repeat (refine sR ?_; simp)
  refine sC ?_
  simp
  try (simp)
  repeat (refine sR ?_; simp)
  refine Stop.of_b (containsFuncA_c before 261 [.ptr (nb + 2) 0 0] p hb _ _ _ _ hcap (fun y hy box' nb' he => h2 y box' nb' _ (he _ _ (by simp [lb_at])))) ?_
  simp
  try (simp)
  repeat (refine sR ?_; simp)
  cases e2 : anyB p before
  ·rw [e2, if_neg (by simp)] at hA
   refine sC ?_
   simp
   try (simp)
   repeat (refine sR ?_; simp)
   refine Stop.of_d (h3 _ _) ?_
   simp
   try (simp)
   repeat (refine sR ?_; simp)
   by_cases e3 : nmsE x.names = 0
   ·rw [if_neg (by simp [e3])] at hA
    simp only [e3]
    refine sC ?_
    simp
    by_cases c1 : -1000000 ≤ x.lo
    ·by_cases c2 : x.lo ≤ x.hi
     ·by_cases c3 : x.hi ≤ 1000000
      ·try (simp [c1, c2, c3])
       repeat (refine sR ?_; simp [c1, c2, c3])
       by_cases z : x.names.length = 0
       ·have z2 : ¬ 0 < x.names.length := by omega
        have hr : rngA x = true := by rw [rngA, if_pos z]; simp only [decide_eq_true_eq, decide_eq_false_iff_not]; omega
        rw [hr] at hA
        refine sC ?_
        simp [z2]
        try (simp)
        repeat (refine sR ?_; simp)
        refine sC ?_
        simp
        try (simp)
        repeat (refine sR ?_; simp)
        refine sT ?_
        try simp only [AU]
        refine ⟨by simp, sF hbox htok (fun _ h => h) (Nat.le_refl _) ?_⟩
        simp [packA, hA]
       ·have z2 : 0 < x.names.length := by omega
        have hr : rngA x = decide (x.lo = 0 ∧ x.hi = (x.names.length : Int) - 1) := if_neg z
        rw [hr] at hA
        have hln := hx.l.n
        have w : IntKind.i64.wrap ((x.names.length : Int) - 1) = (x.names.length : Int) - 1 := wrap_in (by omega) (by omega)
        by_cases l0 : x.lo = 0
        ·have b0 : (x.lo == 0) = true := by simp [l0]
         by_cases h0 : x.hi = (x.names.length : Int) - 1
         ·have b1 : (x.hi == (x.names.length : Int) - 1) = true := by simp [h0]
          refine sC ?_
          simp [z2]
          try (simp [w, b0, b1])
          repeat (refine sR ?_; simp [w, b0, b1])
          refine sC ?_
          simp
          try (simp)
          repeat (refine sR ?_; simp)
          refine sT ?_
          try simp only [AU]
          refine ⟨by simp, sF hbox htok (fun _ h => h) (Nat.le_refl _) ?_⟩
          simp [packA, hA, l0, h0]
         ·have b1 : (x.hi == (x.names.length : Int) - 1) = false := by simp [h0]
          refine sC ?_
          simp [z2]
          try (simp [w, b0, b1])
          repeat (refine sR ?_; simp [w, b0, b1])
          refine sC ?_
          simp
          try (simp)
          repeat (refine sR ?_; simp)
          refine sT ?_
          try simp only [AU]
          refine ⟨by simp, sF hbox htok (fun _ h => h) (Nat.le_refl _) ?_⟩
          simp [packA, hA, l0, h0]
        ·have b0 : (x.lo == 0) = false := by simp [l0]
         refine sC ?_
         simp [z2]
         try (simp [w, b0])
         repeat (refine sR ?_; simp [w, b0])
         refine sC ?_
         simp
         try (simp)
         repeat (refine sR ?_; simp)
         refine sT ?_
         try simp only [AU]
         refine ⟨by simp, sF hbox htok (fun _ h => h) (Nat.le_refl _) ?_⟩
         simp [packA, hA, l0]
      ·try (simp [c1, c2, c3])
       repeat (refine sR ?_; simp [c1, c2, c3])
       by_cases z : x.names.length = 0
       ·have z2 : ¬ 0 < x.names.length := by omega
        have hr : rngA x = false := by rw [rngA, if_pos z]; simp only [decide_eq_true_eq, decide_eq_false_iff_not]; omega
        rw [hr] at hA
        refine sC ?_
        simp [z2]
        try (simp)
        repeat (refine sR ?_; simp)
        refine sC ?_
        simp
        try (simp)
        repeat (refine sR ?_; simp)
        refine sT ?_
        try simp only [AU]
        refine ⟨by simp, sF hbox htok (fun _ h => h) (Nat.le_refl _) ?_⟩
        simp [packA, hA]
       ·have z2 : 0 < x.names.length := by omega
        have hr : rngA x = decide (x.lo = 0 ∧ x.hi = (x.names.length : Int) - 1) := if_neg z
        rw [hr] at hA
        have hln := hx.l.n
        have w : IntKind.i64.wrap ((x.names.length : Int) - 1) = (x.names.length : Int) - 1 := wrap_in (by omega) (by omega)
        by_cases l0 : x.lo = 0
        ·have b0 : (x.lo == 0) = true := by simp [l0]
         by_cases h0 : x.hi = (x.names.length : Int) - 1
         ·have b1 : (x.hi == (x.names.length : Int) - 1) = true := by simp [h0]
          refine sC ?_
          simp [z2]
          try (simp [w, b0, b1])
          repeat (refine sR ?_; simp [w, b0, b1])
          refine sC ?_
          simp
          try (simp)
          repeat (refine sR ?_; simp)
          refine sT ?_
          try simp only [AU]
          refine ⟨by simp, sF hbox htok (fun _ h => h) (Nat.le_refl _) ?_⟩
          simp [packA, hA, l0, h0]
         ·have b1 : (x.hi == (x.names.length : Int) - 1) = false := by simp [h0]
          refine sC ?_
          simp [z2]
          try (simp [w, b0, b1])
          repeat (refine sR ?_; simp [w, b0, b1])
          refine sC ?_
          simp
          try (simp)
          repeat (refine sR ?_; simp)
          refine sT ?_
          try simp only [AU]
          refine ⟨by simp, sF hbox htok (fun _ h => h) (Nat.le_refl _) ?_⟩
          simp [packA, hA, l0, h0]
        ·have b0 : (x.lo == 0) = false := by simp [l0]
         refine sC ?_
         simp [z2]
         try (simp [w, b0])
         repeat (refine sR ?_; simp [w, b0])
         refine sC ?_
         simp
         try (simp)
         repeat (refine sR ?_; simp)
         refine sT ?_
         try simp only [AU]
         refine ⟨by simp, sF hbox htok (fun _ h => h) (Nat.le_refl _) ?_⟩
         simp [packA, hA, l0]
     ·try (simp [c1, c2])
      repeat (refine sR ?_; simp [c1, c2])
      by_cases z : x.names.length = 0
      ·have z2 : ¬ 0 < x.names.length := by omega
       have hr : rngA x = false := by rw [rngA, if_pos z]; simp only [decide_eq_true_eq, decide_eq_false_iff_not]; omega
       rw [hr] at hA
       refine sC ?_
       simp [z2]
       try (simp)
       repeat (refine sR ?_; simp)
       refine sC ?_
       simp
       try (simp)
       repeat (refine sR ?_; simp)
       refine sT ?_
       try simp only [AU]
       refine ⟨by simp, sF hbox htok (fun _ h => h) (Nat.le_refl _) ?_⟩
       simp [packA, hA]
      ·have z2 : 0 < x.names.length := by omega
       have hr : rngA x = decide (x.lo = 0 ∧ x.hi = (x.names.length : Int) - 1) := if_neg z
       rw [hr] at hA
       have hln := hx.l.n
       have w : IntKind.i64.wrap ((x.names.length : Int) - 1) = (x.names.length : Int) - 1 := wrap_in (by omega) (by omega)
       by_cases l0 : x.lo = 0
       ·have b0 : (x.lo == 0) = true := by simp [l0]
        by_cases h0 : x.hi = (x.names.length : Int) - 1
        ·have b1 : (x.hi == (x.names.length : Int) - 1) = true := by simp [h0]
         refine sC ?_
         simp [z2]
         try (simp [w, b0, b1])
         repeat (refine sR ?_; simp [w, b0, b1])
         refine sC ?_
         simp
         try (simp)
         repeat (refine sR ?_; simp)
         refine sT ?_
         try simp only [AU]
         refine ⟨by simp, sF hbox htok (fun _ h => h) (Nat.le_refl _) ?_⟩
         simp [packA, hA, l0, h0]
        ·have b1 : (x.hi == (x.names.length : Int) - 1) = false := by simp [h0]
         refine sC ?_
         simp [z2]
         try (simp [w, b0, b1])
         repeat (refine sR ?_; simp [w, b0, b1])
         refine sC ?_
         simp
         try (simp)
         repeat (refine sR ?_; simp)
         refine sT ?_
         try simp only [AU]
         refine ⟨by simp, sF hbox htok (fun _ h => h) (Nat.le_refl _) ?_⟩
         simp [packA, hA, l0, h0]
       ·have b0 : (x.lo == 0) = false := by simp [l0]
        refine sC ?_
        simp [z2]
        try (simp [w, b0])
        repeat (refine sR ?_; simp [w, b0])
        refine sC ?_
        simp
        try (simp)
        repeat (refine sR ?_; simp)
        refine sT ?_
        try simp only [AU]
        refine ⟨by simp, sF hbox htok (fun _ h => h) (Nat.le_refl _) ?_⟩
        simp [packA, hA, l0]
    ·try (simp [c1])
     repeat (refine sR ?_; simp [c1])
     by_cases z : x.names.length = 0
     ·have z2 : ¬ 0 < x.names.length := by omega
      have hr : rngA x = false := by rw [rngA, if_pos z]; simp only [decide_eq_true_eq, decide_eq_false_iff_not]; omega
      rw [hr] at hA
      refine sC ?_
      simp [z2]
      try (simp)
      repeat (refine sR ?_; simp)
      refine sC ?_
      simp
      try (simp)
      repeat (refine sR ?_; simp)
      refine sT ?_
      try simp only [AU]
      refine ⟨by simp, sF hbox htok (fun _ h => h) (Nat.le_refl _) ?_⟩
      simp [packA, hA]
     ·have z2 : 0 < x.names.length := by omega
      have hr : rngA x = decide (x.lo = 0 ∧ x.hi = (x.names.length : Int) - 1) := if_neg z
      rw [hr] at hA
      have hln := hx.l.n
      have w : IntKind.i64.wrap ((x.names.length : Int) - 1) = (x.names.length : Int) - 1 := wrap_in (by omega) (by omega)
      by_cases l0 : x.lo = 0
      ·have b0 : (x.lo == 0) = true := by simp [l0]
       by_cases h0 : x.hi = (x.names.length : Int) - 1
       ·have b1 : (x.hi == (x.names.length : Int) - 1) = true := by simp [h0]
        refine sC ?_
        simp [z2]
        try (simp [w, b0, b1])
        repeat (refine sR ?_; simp [w, b0, b1])
        refine sC ?_
        simp
        try (simp)
        repeat (refine sR ?_; simp)
        refine sT ?_
        try simp only [AU]
        refine ⟨by simp, sF hbox htok (fun _ h => h) (Nat.le_refl _) ?_⟩
        simp [packA, hA, l0, h0]
       ·have b1 : (x.hi == (x.names.length : Int) - 1) = false := by simp [h0]
        refine sC ?_
        simp [z2]
        try (simp [w, b0, b1])
        repeat (refine sR ?_; simp [w, b0, b1])
        refine sC ?_
        simp
        try (simp)
        repeat (refine sR ?_; simp)
        refine sT ?_
        try simp only [AU]
        refine ⟨by simp, sF hbox htok (fun _ h => h) (Nat.le_refl _) ?_⟩
        simp [packA, hA, l0, h0]
      ·have b0 : (x.lo == 0) = false := by simp [l0]
       refine sC ?_
       simp [z2]
       try (simp [w, b0])
       repeat (refine sR ?_; simp [w, b0])
       refine sC ?_
       simp
       try (simp)
       repeat (refine sR ?_; simp)
       refine sT ?_
       try simp only [AU]
       refine ⟨by simp, sF hbox htok (fun _ h => h) (Nat.le_refl _) ?_⟩
       simp [packA, hA, l0]
   ·rw [if_pos e3] at hA
    have b3 : (nmsE x.names != 0) = true := by simp [e3]
    simp only [b3]
    refine sC ?_
    simp
    try (simp)
    repeat (refine sR ?_; simp)
    refine sT ?_
    try simp only [AU]
    refine ⟨by simp, sF hbox htok (fun _ h => h) (Nat.le_refl _) ?_⟩
    simp [packA, hA]
  ·rw [e2, if_pos rfl] at hA
   refine sC ?_
   simp
   try (simp)
   repeat (refine sR ?_; simp)
   refine sT ?_
   try simp only [AU]
   refine ⟨by simp, sF hbox htok (fun _ h => h) (Nat.le_refl _) ?_⟩
   simp [packA, hA]
end Go.AM
namespace Go.AM
open Go Go.Proofs
def inZ (n lo hi : Int) : Bool := decide (lo ≤ n ∧ n ≤ hi)
theorem in04_c (n lo hi : Int) (tok : Tks) (nt : Nat) : DCall Tryz.prog 167 [I n, I lo, I hi] tok nt (B (inZ n lo hi)) tok nt := by
 intro box nb
 by_cases h1 : lo ≤ n
 ·by_cases h2 : n ≤ hi
  ·refine sB Tryz.func167 Tryz.ntmps167 ?_
   intro hbox htok
   simp only at hbox htok
   apply AL.start
   try (simp [h1, h2])
   repeat (refine sR ?_; simp [h1, h2])
   refine sT ?_
   try simp only [AU]
   refine ⟨by simp, sF hbox htok (fun _ h => h) (Nat.le_refl _) ?_⟩
   simp [packA, inZ, h1, h2]
  ·refine sB Tryz.func167 Tryz.ntmps167 ?_
   intro hbox htok
   simp only at hbox htok
   apply AL.start
   try (simp [h1, h2])
   repeat (refine sR ?_; simp [h1, h2])
   refine sT ?_
   try simp only [AU]
   refine ⟨by simp, sF hbox htok (fun _ h => h) (Nat.le_refl _) ?_⟩
   simp [packA, inZ, h1, h2]
 ·refine sB Tryz.func167 Tryz.ntmps167 ?_
  intro hbox htok
  simp only at hbox htok
  apply AL.start
  try (simp [h1])
  repeat (refine sR ?_; simp [h1])
  refine sT ?_
  try simp only [AU]
  refine ⟨by simp, sF hbox htok (fun _ h => h) (Nat.le_refl _) ?_⟩
  simp [packA, inZ, h1]
def attS (x : At) : Int := if nmsE x.names ≠ 0 then nmsE x.names else if rngA x = true then 0 else 6
theorem attribute04_c (x : At) (hx : x.Fit) (tok : Tks) (nt : Nat) : DCall Tryz.prog 220 [x.av] tok nt (I (attS x)) tok nt := by
 intro box nb
 have h3 := names04_c x.names hx.l
 have i1 := in04_c x.lo (-1000000) 1000000
 have i2 := in04_c x.hi x.lo 1000000
 obtain ⟨N, hN⟩ : ∃ N, attS x = N := ⟨_, rfl⟩
 rw [hN]
 unfold attS at hN
 by_cases z : x.names.length = 0
 ·have z0 : nmsE x.names = 0 := by
   have : x.names = [] := List.length_eq_zero_iff.1 z
   rw [this]; rfl
  rw [if_neg (by simp [z0])] at hN
  have hr : rngA x = decide (-1000000 ≤ x.lo ∧ x.lo ≤ x.hi ∧ x.hi ≤ 1000000) := by rw [rngA, if_pos z]
  have zl : x.names = [] := List.length_eq_zero_iff.1 z
  cases e1 : inZ x.lo (-1000000) 1000000
  ·have r1 : rngA x = false := by
    rw [hr]
    simp only [inZ, decide_eq_false_iff_not] at e1 ⊢
    omega
   rw [r1] at hN
   rw [e1] at i1
   refine sB Tryz.func220 Tryz.ntmps220 ?_
   intro hbox htok
   simp only at hbox htok
   apply AL.start
   try (simp)
   repeat (refine sR ?_; simp)
   refine sC ?_
   simp [z, zl]
   try (simp)
   repeat (refine sR ?_; simp)
   refine Stop.of_d (i1 _ _) ?_
   simp
   try (simp)
   repeat (refine sR ?_; simp)
   refine sC ?_
   simp
   try (simp)
   repeat (refine sR ?_; simp)
   refine sT ?_
   try simp only [AU]
   refine ⟨by simp, sF hbox htok (fun _ h => h) (Nat.le_refl _) ?_⟩
   simp [packA, ← hN]
  ·cases e2 : inZ x.hi x.lo 1000000
   ·have r1 : rngA x = false := by
     rw [hr]
     simp only [inZ, decide_eq_false_iff_not, decide_eq_true_eq] at e1 e2 ⊢
     omega
    rw [r1] at hN
    rw [e1] at i1
    rw [e2] at i2
    refine sB Tryz.func220 Tryz.ntmps220 ?_
    intro hbox htok
    simp only at hbox htok
    apply AL.start
    try (simp)
    repeat (refine sR ?_; simp)
    refine sC ?_
    simp [z, zl]
    try (simp)
    repeat (refine sR ?_; simp)
    refine Stop.of_d (i1 _ _) ?_
    simp
    try (simp)
    repeat (refine sR ?_; simp)
    refine Stop.of_d (i2 _ _) ?_
    simp
    try (simp)
    repeat (refine sR ?_; simp)
    refine sC ?_
    simp
    try (simp)
    repeat (refine sR ?_; simp)
    refine sT ?_
    try simp only [AU]
    refine ⟨by simp, sF hbox htok (fun _ h => h) (Nat.le_refl _) ?_⟩
    simp [packA, ← hN]
   ·have r1 : rngA x = true := by
     rw [hr]
     simp only [inZ, decide_eq_true_eq] at e1 e2 ⊢
     omega
    rw [r1] at hN
    rw [e1] at i1
    rw [e2] at i2
    refine sB Tryz.func220 Tryz.ntmps220 ?_
    intro hbox htok
    simp only at hbox htok
    apply AL.start
    try (simp)
    repeat (refine sR ?_; simp)
    refine sC ?_
    simp [z, zl]
    try (simp)
    repeat (refine sR ?_; simp)
    refine Stop.of_d (i1 _ _) ?_
    simp
    try (simp)
    repeat (refine sR ?_; simp)
    refine Stop.of_d (i2 _ _) ?_
    simp
    try (simp)
    repeat (refine sR ?_; simp)
    refine sC ?_
    simp
    try (simp)
    repeat (refine sR ?_; simp)
    refine sT ?_
    try simp only [AU]
    refine ⟨by simp, sF hbox htok (fun _ h => h) (Nat.le_refl _) ?_⟩
    simp [packA, ← hN]
 ·have zl : ¬ x.names = [] := fun h => z (by rw [h]; rfl)
  have hr : rngA x = decide (x.lo = 0 ∧ x.hi = (x.names.length : Int) - 1) := if_neg z
  rw [hr] at hN
  have hln := hx.l.n
  have w : IntKind.i64.wrap ((x.names.length : Int) - 1) = (x.names.length : Int) - 1 := wrap_in (by omega) (by omega)
  refine sB Tryz.func220 Tryz.ntmps220 ?_
  intro hbox htok
  simp only at hbox htok
  apply AL.start
  try (simp)
  repeat (refine sR ?_; simp)
  refine sC ?_
  simp [z, zl]
  try (simp)
  repeat (refine sR ?_; simp)
  refine Stop.of_d (h3 _ _) ?_
  simp
  try (simp)
  repeat (refine sR ?_; simp)
  by_cases e3 : nmsE x.names = 0
  ·rw [if_neg (by simp [e3])] at hN
   simp only [e3]
   refine sC ?_
   simp
   by_cases l0 : x.lo = 0
   ·have b0 : (x.lo != 0) = false := by simp [l0]
    by_cases h0 : x.hi = (x.names.length : Int) - 1
    ·have b1 : (x.hi != (x.names.length : Int) - 1) = false := by simp [h0]
     try (simp [w, b0, b1])
     repeat (refine sR ?_; simp [w, b0, b1])
     refine sC ?_
     simp
     try (simp)
     repeat (refine sR ?_; simp)
     refine sT ?_
     try simp only [AU]
     refine ⟨by simp, sF hbox htok (fun _ h => h) (Nat.le_refl _) ?_⟩
     simp [packA, ← hN, l0, h0]
    ·have b1 : (x.hi != (x.names.length : Int) - 1) = true := by simp [h0]
     try (simp [w, b0, b1])
     repeat (refine sR ?_; simp [w, b0, b1])
     refine sC ?_
     simp
     try (simp)
     repeat (refine sR ?_; simp)
     refine sT ?_
     try simp only [AU]
     refine ⟨by simp, sF hbox htok (fun _ h => h) (Nat.le_refl _) ?_⟩
     simp [packA, ← hN, l0, h0]
   ·have b0 : (x.lo != 0) = true := by simp [l0]
    try (simp [w, b0])
    repeat (refine sR ?_; simp [w, b0])
    refine sC ?_
    simp
    try (simp)
    repeat (refine sR ?_; simp)
    refine sT ?_
    try simp only [AU]
    refine ⟨by simp, sF hbox htok (fun _ h => h) (Nat.le_refl _) ?_⟩
    simp [packA, ← hN, l0]
  ·rw [if_pos e3] at hN
   have b3 : (nmsE x.names != 0) = true := by simp [e3]
   simp only [b3]
   refine sC ?_
   simp
   try (simp)
   repeat (refine sR ?_; simp)
   refine sT ?_
   try simp only [AU]
   refine ⟨by simp, sF hbox htok (fun _ h => h) (Nat.le_refl _) ?_⟩
   simp [packA, ← hN]
end Go.AM
namespace Go.AM
open Go Go.Proofs
instance : Inhabited NT := ⟨⟨eB, 0, false, []⟩⟩
def Ty.nd (t : Ty) (i : Nat) : NT := t.nodes.getD i default
def atsL (t : Ty) (i : Nat) : List At := if h : 0 ≤ (t.nd i).par ∧ (t.nd i).par.toNat < i then atsL t (t.nd i).par.toNat ++ (t.nd i).own else (t.nd i).own
termination_by i
decreasing_by exact h.2
theorem atsL_up {t : Ty} {i : Nat} (h : 0 ≤ (t.nd i).par) (h2 : (t.nd i).par.toNat < i) : atsL t i = atsL t (t.nd i).par.toNat ++ (t.nd i).own := by rw [atsL, dif_pos ⟨h, h2⟩]
theorem atsL_top {t : Ty} {i : Nat} (h : ¬ 0 ≤ (t.nd i).par) : atsL t i = (t.nd i).own := by rw [atsL, dif_neg fun h2 => h h2.1]
theorem atsL_len {t : Ty} {M : Nat} (hM : ∀ i, (t.nd i).own.length ≤ M) : ∀ n i, i < n → (atsL t i).length ≤ (i + 1) * M
 | 0, i, hi => absurd hi (Nat.not_lt_zero _)
 | n + 1, i, hi => by
  have hm := hM i
  by_cases h : 0 ≤ (t.nd i).par ∧ (t.nd i).par.toNat < i
  ·have ih := atsL_len hM n (t.nd i).par.toNat (by omega)
   rw [atsL_up h.1 h.2, List.length_append]
   have : ((t.nd i).par.toNat + 1) * M ≤ i * M := Nat.mul_le_mul_right _ (by omega)
   rw [Nat.add_mul, Nat.one_mul]
   omega
  ·rw [atsL, dif_neg h]
   have : M ≤ (i + 1) * M := Nat.le_mul_of_pos_left _ (by omega)
   omega
structure Ty.Fit (t : Ty) : Prop where
 n : t.nodes.length ≤ 1000
 e : t.edges.length ≤ 1000
 nn : ∀ x ∈ t.nodes, x.name.size ≤ 1000000000000
 en : ∀ x ∈ t.edges, x.name.size ≤ 1000000000000
 a : ∀ x ∈ t.nodes, x.own.length ≤ 1000 ∧ ∀ y ∈ x.own, y.Fit
theorem nd_at {t : Ty} {i : Nat} (h : i < t.nodes.length) : t.nd i = t.nodes[i] := by simp [Ty.nd, h]
theorem attrs_c (t : Ty) (ht : t.Fit) (hM : ∀ i, (t.nd i).own.length ≤ 1000) : ∀ (n i : Nat), i < n → i < t.nodes.length → (∀ j, j ≤ i → (t.nd j).par < j) → ∀ (tok : Tks) (nt : Nat), ∃ tok' nt' o, ((∀ q, tok q = true → q < nt) → TK tok nt tok' nt' [o]) ∧
  DCall Tryz.prog 212 [t.av, I i] tok nt (.osl 4 ((atsL t i).map At.cells) o) tok' nt'
 | 0, i, hi, _, _, _, _ => absurd hi (Nat.not_lt_zero _)
 | n + 1, i, hi, hlt, hp, tok, nt => by
  have hnd := nd_at hlt
  by_cases h0 : 0 ≤ (t.nd i).par
  ·have hpi := hp i (Nat.le_refl _)
   obtain ⟨tok1, nt1, o1, hk, hc⟩ := attrs_c t ht hM n (t.nd i).par.toNat (by omega) (by omega) (fun j hj => hp j (by omega)) tok nt
   have hL := atsL_up h0 (by omega)
   have hl1 := atsL_len hM (i + 1) (t.nd i).par.toNat (by omega)
   have hl2 := hM i
   have hb : ((t.nd i).par.toNat + 1) * 1000 ≤ 1000 * 1000 := Nat.mul_le_mul_right _ (by have := ht.n; omega)
   refine ⟨_, _, .tok nt1, fun h => (hk h).app, ?_⟩
   rw [hL]
   rw [Int.toNat_of_nonneg h0] at hc
   generalize atsL t (t.nd i).par.toNat = Q at *
   rw [hnd] at h0 hc hl2 ⊢
   intro box nb
   have hc := hc
   refine sB Tryz.func212 Tryz.ntmps212 ?_
   intro hbox htok
   simp only at hbox htok
   apply AL.start
   have hkk := hk htok
   try (simp [hlt])
   repeat (refine sR ?_; simp [hlt])
   refine sC ?_
   simp [h0]
   try (simp)
   repeat (refine sR ?_; simp)
   refine Stop.of_d (hc) ?_
   simp
   try (simp [hlt])
   repeat (refine sR ?_; simp [hlt])
   refine ⟨⟨by omega, hkk.live⟩, ?_⟩
   refine sN ?_
   refine AL.ret ?_
   try simp only [AU]
   refine ⟨by simp, Fin.own (by simp [resAs, resA]; rfl) hbox rfl hkk.app.le ?_⟩
   simp [packA]
  ·have hL := atsL_top h0
   have hl2 := hM i
   refine ⟨_, _, .tok nt, fun h => (TK.start h).full.app, ?_⟩
   rw [hL]
   rw [hnd] at h0 hl2 ⊢
   intro box nb
   refine sB Tryz.func212 Tryz.ntmps212 ?_
   intro hbox htok
   simp only at hbox htok
   apply AL.start
   have hkk := (TK.start htok).full
   try (simp [hlt])
   repeat (refine sR ?_; simp [hlt])
   refine sC ?_
   simp [h0]
   try (simp [hlt])
   repeat (refine sR ?_; simp [hlt])
   refine ⟨by omega, ?_⟩
   refine sN ?_
   refine AL.ret ?_
   try simp only [AU]
   refine ⟨by simp, Fin.own (by simp [resAs, resA]; rfl) hbox rfl (by simp) ?_⟩
   simp [packA]
theorem attrsNeg_c (t : Ty) (a : Int) (h : a < 0) (tok : Tks) (nt : Nat) : DCall Tryz.prog 219 [t.av, I a] tok nt (.osl 0 [] .full) tok nt := by
 intro box nb
 refine sB Tryz.func219 Tryz.ntmps219 ?_
 intro hbox htok
 simp only at hbox htok
 apply AL.start
 try (simp [h])
 repeat (refine sR ?_; simp [h])
 refine sC ?_
 simp [h]
 try (simp)
 repeat (refine sR ?_; simp)
 refine sT ?_
 try simp only [AU]
 refine ⟨by simp, sF hbox htok (fun _ h => h) (Nat.le_refl _) ?_⟩
 simp [packA]
theorem attrs04_c (t : Ty) (ht : t.Fit) (hM : ∀ i, (t.nd i).own.length ≤ 1000) : ∀ (n i : Nat), i < n → i < t.nodes.length → (∀ j, j ≤ i → (t.nd j).par < j) → ∀ (tok : Tks) (nt : Nat), ∃ tok' nt' o, ((∀ q, tok q = true → q < nt) → TK tok nt tok' nt' [o]) ∧
  DCall Tryz.prog 219 [t.av, I i] tok nt (.osl 4 ((atsL t i).map At.cells) o) tok' nt'
 | 0, i, hi, _, _, _, _ => absurd hi (Nat.not_lt_zero _)
 | n + 1, i, hi, hlt, hp, tok, nt => by
  have hnd := nd_at hlt
  have hi0 : ¬ (i : Int) < 0 := by omega
  by_cases h0 : 0 ≤ (t.nd i).par
  ·have hpi := hp i (Nat.le_refl _)
   obtain ⟨tok1, nt1, o1, hk, hc⟩ := attrs04_c t ht hM n (t.nd i).par.toNat (by omega) (by omega) (fun j hj => hp j (by omega)) tok nt
   have hL := atsL_up h0 (by omega)
   have hl1 := atsL_len hM (i + 1) (t.nd i).par.toNat (by omega)
   have hl2 := hM i
   have hb : ((t.nd i).par.toNat + 1) * 1000 ≤ 1000 * 1000 := Nat.mul_le_mul_right _ (by have := ht.n; omega)
   refine ⟨_, _, .tok (nt1 + 1), fun h => (hk h).tail.full.app.app, ?_⟩
   rw [hL]
   rw [Int.toNat_of_nonneg h0] at hc
   generalize atsL t (t.nd i).par.toNat = Q at *
   rw [hnd] at h0 hc hl2 ⊢
   intro box nb
   refine sB Tryz.func219 Tryz.ntmps219 ?_
   intro hbox htok
   simp only at hbox htok
   apply AL.start
   have hkk := hk htok
   try (simp [hi0])
   repeat (refine sR ?_; simp [hi0])
   refine sC ?_
   simp [hi0]
   try (simp [hlt])
   repeat (refine sR ?_; simp [hlt])
   refine Stop.of_d (hc) ?_
   simp
   try (simp [hlt])
   repeat (refine sR ?_; simp [hlt])
   first | refine ⟨by omega, ⟨by omega, upd_same _ _ _⟩, ?_⟩ | refine ⟨⟨by omega, upd_same _ _ _⟩, ?_⟩ | refine ⟨by omega, upd_same _ _ _, ?_⟩ | trace_state
   refine sN ?_
   refine AL.ret ?_
   try simp only [AU]
   refine ⟨by simp, Fin.own (by simp [resAs, resA]; rfl) hbox rfl hkk.tail.full.app.app.le ?_⟩
   simp [packA]
  ·have hL := atsL_top h0
   have hl2 := hM i
   have hc := attrsNeg_c t (t.nd i).par (by omega) tok nt
   refine ⟨_, _, .tok (nt + 1), fun h => (TK.start h).full.app.app, ?_⟩
   rw [hL]
   rw [hnd] at h0 hc hl2 ⊢
   intro box nb
   refine sB Tryz.func219 Tryz.ntmps219 ?_
   intro hbox htok
   simp only at hbox htok
   apply AL.start
   have hkk := (TK.start htok).full
   try (simp [hi0])
   repeat (refine sR ?_; simp [hi0])
   refine sC ?_
   simp [hi0]
   try (simp [hlt])
   repeat (refine sR ?_; simp [hlt])
   refine Stop.of_d (hc) ?_
   simp
   try (simp [hlt])
   repeat (refine sR ?_; simp [hlt])
   first | refine ⟨by omega, ⟨by omega, upd_same _ _ _⟩, ?_⟩ | refine ⟨⟨by omega, upd_same _ _ _⟩, ?_⟩ | refine ⟨by omega, upd_same _ _ _, ?_⟩ | trace_state
   refine sN ?_
   refine AL.ret ?_
   try simp only [AU]
   refine ⟨by simp, Fin.own (by simp [resAs, resA]; rfl) hbox rfl hkk.app.app.le ?_⟩
   simp [packA]
end Go.AM
namespace Go.AM
open Go Go.Proofs
def bndB (lo hi : Int) : Bool := decide (0 ≤ lo ∧ lo ≤ 40) && (hi == -1 || decide (lo ≤ hi ∧ hi ≤ 40))
theorem bounded_c (lo hi : Int) (tok : Tks) (nt : Nat) : DCall Tryz.prog 217 [I lo, I hi] tok nt (B (bndB lo hi)) tok nt := by
 intro box nb
 by_cases h1 : 0 ≤ lo
 ·by_cases h2 : lo ≤ 40
  ·cases h3 : (hi == -1)
   ·by_cases h4 : lo ≤ hi
    ·by_cases h5 : hi ≤ 40
     ·refine sB Tryz.func217 Tryz.ntmps217 ?_
      intro hbox htok
      simp only at hbox htok
      apply AL.start
      try (simp [h1, h2, h3, h4, h5])
      repeat (refine sR ?_; simp [h1, h2, h3, h4, h5])
      refine sT ?_
      try simp only [AU]
      refine ⟨by simp, sF hbox htok (fun _ h => h) (Nat.le_refl _) ?_⟩
      simp [packA, bndB, h1, h2, h3, h4, h5]
     ·refine sB Tryz.func217 Tryz.ntmps217 ?_
      intro hbox htok
      simp only at hbox htok
      apply AL.start
      try (simp [h1, h2, h3, h4, h5])
      repeat (refine sR ?_; simp [h1, h2, h3, h4, h5])
      refine sT ?_
      try simp only [AU]
      refine ⟨by simp, sF hbox htok (fun _ h => h) (Nat.le_refl _) ?_⟩
      simp [packA, bndB, h1, h2, h3, h4, h5]
    ·refine sB Tryz.func217 Tryz.ntmps217 ?_
     intro hbox htok
     simp only at hbox htok
     apply AL.start
     try (simp [h1, h2, h3, h4])
     repeat (refine sR ?_; simp [h1, h2, h3, h4])
     refine sT ?_
     try simp only [AU]
     refine ⟨by simp, sF hbox htok (fun _ h => h) (Nat.le_refl _) ?_⟩
     simp [packA, bndB, h1, h2, h3, h4]
   ·refine sB Tryz.func217 Tryz.ntmps217 ?_
    intro hbox htok
    simp only at hbox htok
    apply AL.start
    try (simp [h1, h2, h3])
    repeat (refine sR ?_; simp [h1, h2, h3])
    refine sT ?_
    try simp only [AU]
    refine ⟨by simp, sF hbox htok (fun _ h => h) (Nat.le_refl _) ?_⟩
    simp [packA, bndB, h1, h2, h3]
  ·refine sB Tryz.func217 Tryz.ntmps217 ?_
   intro hbox htok
   simp only at hbox htok
   apply AL.start
   try (simp [h1, h2])
   repeat (refine sR ?_; simp [h1, h2])
   refine sT ?_
   try simp only [AU]
   refine ⟨by simp, sF hbox htok (fun _ h => h) (Nat.le_refl _) ?_⟩
   simp [packA, bndB, h1, h2]
 ·refine sB Tryz.func217 Tryz.ntmps217 ?_
  intro hbox htok
  simp only at hbox htok
  apply AL.start
  try (simp [h1])
  repeat (refine sR ?_; simp [h1])
  refine sT ?_
  try simp only [AU]
  refine ⟨by simp, sF hbox htok (fun _ h => h) (Nat.le_refl _) ?_⟩
  simp [packA, bndB, h1]
abbrev NT.row (n : NT) : List AV := [Sb n.name, I n.par, B n.abs, .d (atts n.own)]
abbrev ET.row (e : ET) : List AV := [Sb e.name, I e.fr, I e.to, I e.ol, I e.oh, I e.il, I e.ih]
theorem node1_c (x y : NT) (box : Bxs) (nb k : Nat) (tok : Tks) (nt : Nat) (h1 : box k = some [x.row]) :
  ACalls Tryz.prog 211 [y.av, .ptr k 0 0] ⟨box, nb, tok, nt⟩ fun v m => v = B (decide (y.name = x.name)) ∧ m = ⟨box, nb, tok, nt⟩ := by
 refine sB Tryz.func211 Tryz.ntmps211 ?_
 intro hbox htok
 simp only at hbox htok
 apply AL.start
 have k1n := key_lt hbox h1
 rw [← seq_dec]
 try (simp [lb_out k1n, h1])
 repeat (refine sR ?_; simp [lb_out k1n, h1])
 refine sT ?_
 try simp only [AU]
 refine ⟨by simp, sF hbox htok (fun _ h => h) (Nat.le_refl _) ?_⟩
 simp [packA]
theorem edge2_c (x y : ET) (box : Bxs) (nb k : Nat) (tok : Tks) (nt : Nat) (h1 : box k = some [x.row]) :
  ACalls Tryz.prog 216 [y.av, .ptr k 0 0] ⟨box, nb, tok, nt⟩ fun v m => v = B (decide (y.name = x.name)) ∧ m = ⟨box, nb, tok, nt⟩ := by
 refine sB Tryz.func216 Tryz.ntmps216 ?_
 intro hbox htok
 simp only at hbox htok
 apply AL.start
 have k1n := key_lt hbox h1
 rw [← seq_dec]
 try (simp [lb_out k1n, h1])
 repeat (refine sR ?_; simp [lb_out k1n, h1])
 refine sT ?_
 try simp only [AU]
 refine ⟨by simp, sF hbox htok (fun _ h => h) (Nat.le_refl _) ?_⟩
 simp [packA]
theorem bound04_c (lo hi : Int) (tok : Tks) (nt : Nat) : DCall Tryz.prog 221 [I lo, I hi] tok nt (B (bndB lo hi)) tok nt := by
 intro box nb
 have i1 := in04_c lo 0 40
 have i2 := in04_c hi lo 40
 cases e1 : inZ lo 0 40
 ·rw [e1] at i1
  have hb : bndB lo hi = false := by
   have : decide (0 ≤ lo ∧ lo ≤ 40) = false := e1
   simp [bndB, this]
  rw [hb]
  refine sB Tryz.func221 Tryz.ntmps221 ?_
  intro hbox htok
  simp only at hbox htok
  apply AL.start
  try (simp)
  repeat (refine sR ?_; simp)
  refine Stop.of_d (i1 _ _) ?_
  simp
  try (simp)
  repeat (refine sR ?_; simp)
  refine sT ?_
  try simp only [AU]
  refine ⟨by simp, sF hbox htok (fun _ h => h) (Nat.le_refl _) ?_⟩
  simp [packA]
 ·rw [e1] at i1
  have h1 : decide (0 ≤ lo ∧ lo ≤ 40) = true := e1
  cases h3 : (hi == -1)
  ·have hb : bndB lo hi = inZ hi lo 40 := by
    simp only [bndB, h1, h3, inZ, Bool.true_and, Bool.false_or]
   rw [hb]
   refine sB Tryz.func221 Tryz.ntmps221 ?_
   intro hbox htok
   simp only at hbox htok
   apply AL.start
   try (simp)
   repeat (refine sR ?_; simp)
   refine Stop.of_d (i1 _ _) ?_
   simp
   try (simp [h3])
   repeat (refine sR ?_; simp [h3])
   refine Stop.of_d (i2 _ _) ?_
   simp
   try (simp)
   repeat (refine sR ?_; simp)
   refine sT ?_
   try simp only [AU]
   refine ⟨by simp, sF hbox htok (fun _ h => h) (Nat.le_refl _) ?_⟩
   simp [packA]
  ·have hb : bndB lo hi = true := by simp only [bndB, h1, h3, Bool.true_and, Bool.true_or]
   rw [hb]
   refine sB Tryz.func221 Tryz.ntmps221 ?_
   intro hbox htok
   simp only at hbox htok
   apply AL.start
   try (simp)
   repeat (refine sR ?_; simp)
   refine Stop.of_d (i1 _ _) ?_
   simp
   try (simp [h3])
   repeat (refine sR ?_; simp [h3])
   refine sT ?_
   try simp only [AU]
   refine ⟨by simp, sF hbox htok (fun _ h => h) (Nat.le_refl _) ?_⟩
   simp [packA]
def insB (t : Ty) (n : Int) : Bool := decide (0 ≤ n ∧ n < t.nodes.length)
theorem edge1_c (t : Ty) (n : Int) (box : Bxs) (nb k : Nat) (tok : Tks) (nt : Nat) (h1 : box k = some [[.d (nts t.nodes), .d (ets t.edges)]]) :
  ACalls Tryz.prog 214 [I n, .ptr k 0 0] ⟨box, nb, tok, nt⟩ fun v m => v = B (insB t n) ∧ m = ⟨box, nb, tok, nt⟩ := by
 by_cases h0 : 0 ≤ n
 ·refine sB Tryz.func214 Tryz.ntmps214 ?_
  intro hbox htok
  simp only at hbox htok
  apply AL.start
  have k1n := key_lt hbox h1
  try (simp [lb_out k1n, h1, h0])
  repeat (refine sR ?_; simp [lb_out k1n, h1, h0])
  refine sT ?_
  try simp only [AU]
  refine ⟨by simp, sF hbox htok (fun _ h => h) (Nat.le_refl _) ?_⟩
  simp [packA, insB, h0]
 ·refine sB Tryz.func214 Tryz.ntmps214 ?_
  intro hbox htok
  simp only at hbox htok
  apply AL.start
  have k1n := key_lt hbox h1
  try (simp [lb_out k1n, h1, h0])
  repeat (refine sR ?_; simp [lb_out k1n, h1, h0])
  refine sT ?_
  try simp only [AU]
  refine ⟨by simp, sF hbox htok (fun _ h => h) (Nat.le_refl _) ?_⟩
  simp [packA, insB, h0]
end Go.AM
namespace Go.AM
open Go Go.Proofs
def atAt (L : List At) (k : Nat) : Int := attE (L.getD k ⟨eB, 0, 0, []⟩) (L.take k)
def ownAt (L : List At) (M k : Nat) : Int := if k + M < L.length then 0 else atAt L k
def ownE (L : List At) (M : Nat) : Int := firstE (ownAt L M) L.length
theorem ownAt_zero (L : List At) (M : Nat) : ∀ k, k + M ≤ L.length → firstE (ownAt L M) k = 0
 | 0, _ => rfl
 | k + 1, h => by
  simp only [firstE, ownAt_zero L M k (by omega), ↓reduceIte, ownAt]
  rw [if_pos (by omega)]
theorem atsL_own {t : Ty} {i : Nat} : (t.nd i).own.length ≤ (atsL t i).length := by
 rw [atsL]
 split
 ·rw [List.length_append]; omega
 ·exact Nat.le_refl _
theorem atsL_fit {t : Ty} (ht : t.Fit) : ∀ n i, i < n → ∀ x ∈ atsL t i, x.Fit
 | 0, i, hi => absurd hi (Nat.not_lt_zero _)
 | n + 1, i, hi => by
  have hown : ∀ x ∈ (t.nd i).own, x.Fit := by
   by_cases h : i < t.nodes.length
   ·rw [nd_at h]; exact (ht.a _ (List.getElem_mem h)).2
   ·intro x hx
    simp only [Ty.nd, List.getD_eq_getElem?_getD, List.getElem?_eq_none (Nat.le_of_not_lt h), Option.getD_none] at hx
    cases hx
  rw [atsL]
  split
  ·rename_i h
   intro x hx
   rcases List.mem_append.1 hx with hx | hx
   ·exact atsL_fit ht n _ (by omega) x hx
   ·exact hown x hx
  ·exact hown
theorem at_getD {L : List At} {k : Nat} (h : k < L.length) : atAt L k = attE L[k] (L.take k) := by simp [atAt, h]
theorem atts_take (L : List At) (k : Nat) : atts (L.take k) = .sl 4 (List.take k (L.map At.cells)) := by rw [atts, List.map_take]
theorem atts_at {L : List At} {k : Nat} (h : k < L.length) : (L.map At.cells)[k]? = some L[k].cells := by simp [h]
def nodE (t : Ty) (i : Nat) : Int :=
 if nameB (t.nd i).name = false then 2 else if anyB (fun y => decide (y.name = (t.nd i).name)) (t.nodes.take i) = true then 5
 else if (t.nd i).par < -1 ∨ (i : Int) ≤ (t.nd i).par then 6 else if 4 < (t.nd i).own.length then 3
 else if 8 < (atsL t i).length then 3 else ownE (atsL t i) (t.nd i).own.length
def stNo (L : List At) (nb : Nat) (box : Bxs) (tok : Tks) (nt : Nat) (k : Nat) : AState := ⟨tl [(7, I k), (6, .d (atts L))], lb nb box [], tok, nt⟩
theorem node_c (t : Ty) (ht : t.Fit) (hM : ∀ i, (t.nd i).own.length ≤ 1000) (i : Nat) (hi : i < t.nodes.length) (hp : ∀ j, j < i → (t.nd j).par < j) (tok : Tks) (nt : Nat) : DCall Tryz.prog 133 [t.av, I i] tok nt (I (nodE t i)) tok nt := by
 intro box nb
 have hnd := nd_at hi
 have hmem := List.getElem_mem hi
 have h1 := isName_c (t.nd i).name (by rw [hnd]; exact Nat.le_trans (ht.nn _ hmem) (by decide))
 obtain ⟨N, hN⟩ : ∃ N, nodE t i = N := ⟨_, rfl⟩
 rw [hN]
 unfold nodE at hN
 rw [hnd] at h1 hN
 cases e1 : nameB t.nodes[i].name
 ·rw [e1] at h1 hN
  rw [if_pos rfl] at hN
  refine sB Tryz.func133 Tryz.ntmps133 ?_
  intro hbox htok
  simp only at hbox htok
  apply AL.start
  try (simp [hi])
  repeat (refine sR ?_; simp [hi])
  refine Stop.of_d (h1 _ _) ?_
  simp
  try (simp)
  repeat (refine sR ?_; simp)
  refine sC ?_
  simp
  try (simp)
  repeat (refine sR ?_; simp)
  refine sT ?_
  try simp only [AU]
  refine ⟨by simp, sF hbox htok (fun _ h => h) (Nat.le_refl _) ?_⟩
  simp [packA, ← hN]
 ·rw [e1] at h1 hN
  rw [if_neg (by simp)] at hN
  obtain ⟨p, hpp⟩ : ∃ p : NT → Bool, (fun y => decide (y.name = t.nodes[i].name)) = p := ⟨_, rfl⟩
  have h2 := fun y box nb k (hbk : box k = some [(t.nodes[i]'hi).row]) => node1_c (t.nodes[i]'hi) y box nb k tok nt hbk
  have hpy : ∀ y : NT, decide (y.name = t.nodes[i].name) = p y := fun y => by rw [← hpp]
  simp only [hpy] at h2
  rw [hpp] at hN
  refine sB Tryz.func133 Tryz.ntmps133 ?_
  intro hbox htok
  simp only at hbox htok
  apply AL.start
  try (simp [hi])
  repeat (refine sR ?_; simp [hi])
  refine Stop.of_d (h1 _ _) ?_
  simp
  try (simp)
  repeat (refine sR ?_; simp)
  refine sC ?_
  simp
  try (simp [hi])
  repeat (refine sR ?_; simp [hi])
  refine ⟨by omega, ?_⟩
  have hcf := fun (b : Bxs) nb' h3 h4 => containsFuncN_c (t.nodes.take i) 211 [.ptr (nb + 5) 0 0] p (by simp; have := ht.n; omega) b nb' tok nt h3 h4
  rw [show nts (t.nodes.take i) = .sl 4 (List.take i (t.nodes.map NT.cells)) by rw [nts, List.map_take]] at hcf
  refine Stop.of_b (hcf _ _ (fun c hc => by rw [List.mem_singleton.1 hc]; simp [lb_at]) (fun y hy box' nb' he => h2 y box' nb' _ (he _ _ (by simp [lb_at])))) ?_
  simp
  cases e2 : anyB p (t.nodes.take i)
  ·rw [e2, if_neg (by simp)] at hN
   refine sC ?_
   simp
   by_cases e3 : t.nodes[i].par < -1
   ·rw [if_pos (.inl e3)] at hN
    try (simp [e3])
    repeat (refine sR ?_; simp [e3])
    refine sC ?_
    simp
    try (simp)
    repeat (refine sR ?_; simp)
    refine sT ?_
    try simp only [AU]
    refine ⟨by simp, sF hbox htok (fun _ h => h) (Nat.le_refl _) ?_⟩
    simp [packA, ← hN]
   ·by_cases e4 : (i : Int) ≤ t.nodes[i].par
    ·rw [if_pos (.inr e4)] at hN
     try (simp [e3, e4])
     repeat (refine sR ?_; simp [e3, e4])
     refine sC ?_
     simp
     try (simp)
     repeat (refine sR ?_; simp)
     refine sT ?_
     try simp only [AU]
     refine ⟨by simp, sF hbox htok (fun _ h => h) (Nat.le_refl _) ?_⟩
     simp [packA, ← hN]
    ·rw [if_neg (by omega)] at hN
     try (simp [e3, e4])
     repeat (refine sR ?_; simp [e3, e4])
     refine sC ?_
     simp
     try (simp)
     repeat (refine sR ?_; simp)
     by_cases e5 : 4 < t.nodes[i].own.length
     ·have e5' : (4 : Int) < t.nodes[i].own.length := by omega
      rw [if_pos e5] at hN
      refine sC ?_
      simp [e5, e5']
      try (simp)
      repeat (refine sR ?_; simp)
      refine sT ?_
      try simp only [AU]
      refine ⟨by simp, sF hbox htok (fun _ h => h) (Nat.le_refl _) ?_⟩
      simp [packA, ← hN]
     ·have e5' : ¬ (4 : Int) < t.nodes[i].own.length := by omega
      rw [if_neg e5] at hN
      obtain ⟨tok1, nt1, o1, hk, hc⟩ := attrs_c t ht hM (i + 1) i (Nat.lt_succ_self _) hi (fun j hj => by
       by_cases e : j = i
       ·subst e; rw [hnd]; omega
       ·exact hp j (by omega)) tok nt
      have hal := atsL_len hM (i + 1) i (Nat.lt_succ_self _)
      have haf := atsL_fit ht (i + 1) i (Nat.lt_succ_self _)
      have hml := atsL_own (t := t) (i := i)
      rw [hnd] at hml
      have htn := ht.n
      have hal2 : (atsL t i).length ≤ 1000000 := Nat.le_trans hal (by have : (i + 1) * 1000 ≤ 1000 * 1000 := Nat.mul_le_mul_right _ (by omega); omega)
      clear hal
      generalize atsL t i = L at *
      refine sC ?_
      simp [e5, e5']
      try (simp)
      repeat (refine sR ?_; simp)
      refine Stop.of_d (hc) ?_
      simp
      have hkk := hk htok
      try (simp)
      repeat (refine sR ?_; simp)
      by_cases e6 : 8 < L.length
      ·have e6' : (8 : Int) < L.length := by omega
       rw [if_pos e6] at hN
       refine sC ?_
       simp [e6, e6']
       try (simp)
       repeat (refine sR ?_; simp)
       refine sT ?_
       try simp only [AU]
       refine ⟨by simp, sF hbox htok hkk.old hkk.le ?_⟩
       simp [packA, ← hN]
      ·have e6' : ¬ (8 : Int) < L.length := by omega
       rw [if_neg e6] at hN
       have hw0 : IntKind.i64.wrap ((L.length : Int) - (t.nodes[i].own.length : Nat)) = ((L.length - t.nodes[i].own.length : Nat) : Int) := by rw [wrap_in (by omega) (by omega)]; omega
       have hz := ownAt_zero L t.nodes[i].own.length (L.length - t.nodes[i].own.length) (by omega)
       unfold ownE at hN
       obtain ⟨f, hf⟩ : ∃ f, ownAt L t.nodes[i].own.length = f := ⟨_, rfl⟩
       have hfk : ∀ k, (hk : k < L.length) → L.length - t.nodes[i].own.length ≤ k → f k = attE L[k] (L.take k) := fun k hk hge => by
        rw [← hf, ownAt, if_neg (by omega), at_getD hk]
       rw [hf] at hN hz
       refine sC ?_
       simp [e6, e6']
       try (simp [hi, lb_at, hw0])
       repeat (refine sR ?_; simp [hi, lb_at, hw0])
       have hal3 : L.length - t.nodes[i].own.length ≤ L.length := Nat.sub_le _ _
       generalize L.length - t.nodes[i].own.length = a at *
       refine sN ?_
       refine AL.loopT (stNo L nb box tok1 nt1) (fun k => a ≤ k ∧ k ≤ L.length ∧ firstE f k = 0) (fun k => L.length - k) a ⟨Nat.le_refl _, by omega, hz⟩ (Weaks.mk (by have := hkk.le; omega) rfl (by simp [ToL, lk, To.data]) trivial) ?_
       rintro k S' ⟨hak, hkl, hok⟩ hS
       simp only [stNo] at hS
       subst hS
       have hw := sW (i := k) (by omega)
       try (simp)
       repeat (refine sR ?_; simp)
       refine sC ?_
       simp
       refine ⟨fun hlt => ?_, fun hge => ?_⟩
       ·have hA := hfk k hlt hak
        have hc2 := attribute_c L[k] (L.take k) (haf _ (List.getElem_mem hlt)) (by simp; omega)
        rw [atts_take, ← hA] at hc2
        have hR : f k ≠ 0 → firstE f L.length = f k := fun h0 => firstE_stop hok h0 L.length hlt
        have hnx : f k = 0 → firstE f (k + 1) = 0 := fun h0 => by simp only [firstE, hok, h0, ↓reduceIte]
        generalize f k = E at *
        try (simp [hlt, atts_at hlt])
        repeat (refine sR ?_; simp [hlt, atts_at hlt])
        try refine ⟨by omega, ?_⟩
        refine Stop.of_d (hc2 _ _) ?_
        simp
        try (simp)
        repeat (refine sR ?_; simp)
        by_cases e7 : E = 0
        ·refine sC ?_
         simp [e7]
         try (simp [hw])
         repeat (refine sR ?_; simp [hw])
         refine sE ?_
         exact ⟨k + 1, ⟨by omega, hlt, hnx e7⟩, by omega, Weaks.mk (by have := hkk.le; omega) rfl (by simp [ToL, lk]) trivial⟩
        ·have b7 : (E != 0) = true := by simp [e7]
         refine sC ?_
         simp [e7, b7]
         try (simp)
         repeat (refine sR ?_; simp)
         refine sT ?_
         try simp only [AU]
         refine ⟨by simp, sF hbox htok hkk.old hkk.le ?_⟩
         simp [packA, ← hN, hR e7]
       ·refine sX ?_
        simp only [AU, ↓reduceIte]
        try (simp)
        repeat (refine sR ?_; simp)
        have : k = L.length := by omega
        subst this
        refine sT ?_
        try simp only [AU]
        refine ⟨by simp, sF hbox htok hkk.old hkk.le ?_⟩
        simp [packA, ← hN, hok]
  ·rw [e2, if_pos rfl] at hN
   refine sC ?_
   simp
   try (simp)
   repeat (refine sR ?_; simp)
   refine sT ?_
   try simp only [AU]
   refine ⟨by simp, sF hbox htok (fun _ h => h) (Nat.le_refl _) ?_⟩
   simp [packA, ← hN]
end Go.AM
namespace Go.AM
open Go Go.Proofs
def anyN (l : List NT) (s : ByteArray) : Bool := anyB (fun y => decide (y.name = s)) l
theorem anyN_iff {l : List NT} {s : ByteArray} : anyN l s = true ↔ ∃ x ∈ l, x.name = s := by simp [anyN, anyB]
theorem anyN_more {l : List NT} {i : Nat} {s : ByteArray} (hi : i < l.length) (h : anyN (l.take i) s = false) (hne : l[i].name ≠ s) : anyN (l.take (i + 1)) s = false := by
 rw [← Bool.not_eq_true, anyN_iff] at h ⊢
 rintro ⟨x, hx, he⟩
 rw [List.take_succ_eq_append_getElem hi, List.mem_append, List.mem_singleton] at hx
 rcases hx with hx | hx
 ·exact h ⟨x, hx, he⟩
 ·exact hne (by rw [← hx]; exact he)
theorem anyN_hit {l : List NT} {k i : Nat} {s : ByteArray} (hk : k < l.length) (hki : k < i) (he : l[k].name = s) : anyN (l.take i) s = true :=
 anyN_iff.2 ⟨l[k], by rw [List.mem_take_iff_getElem]; exact ⟨k, by omega, rfl⟩, he⟩
def anyAt (l : List At) (s : ByteArray) : Bool := anyB (fun y => decide (y.name = s)) l
theorem anyAt_iff {l : List At} {s : ByteArray} : anyAt l s = true ↔ ∃ x ∈ l, x.name = s := by simp [anyAt, anyB]
theorem anyAt_more {l : List At} {i : Nat} {s : ByteArray} (hi : i < l.length) (h : anyAt (l.take i) s = false) (hne : l[i].name ≠ s) : anyAt (l.take (i + 1)) s = false := by
 rw [← Bool.not_eq_true, anyAt_iff] at h ⊢
 rintro ⟨x, hx, he⟩
 rw [List.take_succ_eq_append_getElem hi, List.mem_append, List.mem_singleton] at hx
 rcases hx with hx | hx
 ·exact h ⟨x, hx, he⟩
 ·exact hne (by rw [← hx]; exact he)
theorem anyAt_hit {l : List At} {k i : Nat} {s : ByteArray} (hk : k < l.length) (hki : k < i) (he : l[k].name = s) : anyAt (l.take i) s = true :=
 anyAt_iff.2 ⟨l[k], by rw [List.mem_take_iff_getElem]; exact ⟨k, by omega, rfl⟩, he⟩
theorem attE_attS (x : At) (b : List At) : attE x b = if nameB x.name = false then 2 else if anyAt b x.name = true then 5 else attS x := rfl
def stNr1 (t : Ty) (i : Nat) (n : NT) (nb : Nat) (box : Bxs) (tok : Tks) (nt : Nat) (k : Nat) : AState := ⟨tl [(6, I k), (5, .ptr (nb + 5) 0 0), (2, .ptr (nb + 2) 0 0), (1, I i)], lb nb box [(5, [n.row]), (2, [[.d (nts t.nodes), .d (ets t.edges)]])], tok, nt⟩
def stNr2 (L : List At) (nb : Nat) (box : Bxs) (tok : Tks) (nt : Nat) (k : Nat) : AState := ⟨tl [(8, I k), (7, .d (atts L))], lb nb box [], tok, nt⟩
def stNr3 (L : List At) (k : Nat) (nb : Nat) (box : Bxs) (tok : Tks) (nt : Nat) (j : Nat) : AState := ⟨tl [(9, I j), (8, I k), (7, .d (atts L))], lb nb box [], tok, nt⟩
theorem node04_c (t : Ty) (ht : t.Fit) (hM : ∀ i, (t.nd i).own.length ≤ 1000) (i : Nat) (hi : i < t.nodes.length) (hp : ∀ j, j < i → (t.nd j).par < j) (tok : Tks) (nt : Nat) : DCall Tryz.prog 139 [t.av, I i] tok nt (I (nodE t i)) tok nt := by
 intro box nb
 have hnd := nd_at hi
 have hmem := List.getElem_mem hi
 have htn := ht.n
 have h1 := isName01_c (t.nd i).name (by rw [hnd]; exact Nat.le_trans (ht.nn _ hmem) (by decide))
 obtain ⟨N, hN⟩ : ∃ N, nodE t i = N := ⟨_, rfl⟩
 rw [hN]
 unfold nodE at hN
 change (if nameB (t.nd i).name = false then (2 : Int) else if anyN (t.nodes.take i) (t.nd i).name = true then 5 else _) = N at hN
 rw [hnd] at h1 hN
 have hin := in04_c t.nodes[i].par (-1) ((i : Int) - 1)
 have hwi : IntKind.i64.wrap ((i : Int) - 1) = (i : Int) - 1 := by rw [wrap_in (by omega) (by omega)]
 cases e1 : nameB t.nodes[i].name
 ·rw [e1] at h1 hN
  rw [if_pos rfl] at hN
  refine sB Tryz.func139 Tryz.ntmps139 ?_
  intro hbox htok
  simp only at hbox htok
  apply AL.start
  try (simp [hi])
  repeat (refine sR ?_; simp [hi])
  refine Stop.of_d (h1 _ _) ?_
  simp
  try (simp)
  repeat (refine sR ?_; simp)
  refine sC ?_
  simp
  try (simp)
  repeat (refine sR ?_; simp)
  refine sT ?_
  try simp only [AU]
  refine ⟨by simp, sF hbox htok (fun _ h => h) (Nat.le_refl _) ?_⟩
  simp [packA, ← hN]
 ·rw [e1] at h1 hN
  rw [if_neg (by simp)] at hN
  refine sB Tryz.func139 Tryz.ntmps139 ?_
  intro hbox htok
  simp only at hbox htok
  apply AL.start
  try (simp [hi])
  repeat (refine sR ?_; simp [hi])
  refine Stop.of_d (h1 _ _) ?_
  simp
  try (simp)
  repeat (refine sR ?_; simp)
  refine sC ?_
  simp
  try (simp)
  repeat (refine sR ?_; simp)
  refine sN ?_
  refine AL.loopT (stNr1 t i t.nodes[i] nb box tok nt) (fun k => k ≤ i ∧ anyN (t.nodes.take k) t.nodes[i].name = false) (fun k => i - k) 0 ⟨Nat.zero_le _, rfl⟩ (Weaks.mk (Nat.le_refl _) rfl (by simp [ToL, lk, lb_at]) (by simp [BoxL, lk])) ?_
  rintro k S' ⟨hk, hm⟩ hS
  simp only [stNr1] at hS
  subst hS
  have hwk := sW (i := k) (by omega)
  try (simp)
  repeat (refine sR ?_; simp)
  refine sC ?_
  simp
  refine ⟨fun hlk => ?_, fun hge => ?_⟩
  ·have hkl : k < t.nodes.length := by omega
   by_cases e2 : t.nodes[k].name = t.nodes[i].name
   ·have b2 : (t.nodes[k].name.toList == t.nodes[i].name.toList) = true := by rw [seq_dec]; simp [e2]
    rw [if_pos (anyN_hit hkl hlk e2)] at hN
    try (simp [hi, hkl, b2])
    repeat (refine sR ?_; simp [hi, hkl, b2])
    refine sC ?_
    simp [b2]
    try (simp)
    repeat (refine sR ?_; simp)
    refine sT ?_
    try simp only [AU]
    refine ⟨by simp, sF hbox htok (fun _ h => h) (Nat.le_refl _) ?_⟩
    simp [packA, ← hN]
   ·have b2 : (t.nodes[k].name.toList == t.nodes[i].name.toList) = false := by rw [seq_dec]; simp [e2]
    try (simp [hi, hkl, b2])
    repeat (refine sR ?_; simp [hi, hkl, b2])
    refine sC ?_
    simp [b2]
    try (simp [hwk])
    repeat (refine sR ?_; simp [hwk])
    refine sE ?_
    exact ⟨k + 1, ⟨hlk, anyN_more hkl hm e2⟩, by omega, Weaks.mk (Nat.le_refl _) rfl (by simp [ToL, lk, lb_at]) (by simp [BoxL, lk])⟩
  ·refine sX ?_
   simp only [AU, ↓reduceIte]
   have : k = i := by omega
   subst this
   rw [hm, if_neg (by simp)] at hN
   by_cases e3 : t.nodes[k].par < -1 ∨ (k : Int) ≤ t.nodes[k].par
   ·rw [if_pos e3] at hN
    have b3 : inZ t.nodes[k].par (-1) ((k : Int) - 1) = false := by simp only [inZ, decide_eq_false_iff_not]; omega
    rw [b3] at hin
    try (simp [hi, hwi])
    repeat (refine sR ?_; simp [hi, hwi])
    refine Stop.of_d (hin _ _) ?_
    simp
    try (simp)
    repeat (refine sR ?_; simp)
    refine sC ?_
    simp
    try (simp)
    repeat (refine sR ?_; simp)
    refine sT ?_
    try simp only [AU]
    refine ⟨by simp, sF hbox htok (fun _ h => h) (Nat.le_refl _) ?_⟩
    simp [packA, ← hN]
   ·rw [if_neg e3] at hN
    have b3 : inZ t.nodes[k].par (-1) ((k : Int) - 1) = true := by simp only [inZ, decide_eq_true_eq]; omega
    rw [b3] at hin
    obtain ⟨tok1, nt1, o1, hk, hc⟩ := attrs04_c t ht hM (k + 1) k (Nat.lt_succ_self _) hi (fun j hj => by
     by_cases e : j = k
     ·subst e; rw [hnd]; omega
     ·exact hp j (by omega)) tok nt
    have hal := atsL_len hM (k + 1) k (Nat.lt_succ_self _)
    have haf := atsL_fit ht (k + 1) k (Nat.lt_succ_self _)
    have hml := atsL_own (t := t) (i := k)
    rw [hnd] at hml
    have hal2 : (atsL t k).length ≤ 1000000 := Nat.le_trans hal (by have : (k + 1) * 1000 ≤ 1000 * 1000 := Nat.mul_le_mul_right _ (by omega); omega)
    clear hal
    generalize atsL t k = L at *
    have hw0 : IntKind.i64.wrap ((L.length : Int) - (t.nodes[k].own.length : Nat)) = ((L.length - t.nodes[k].own.length : Nat) : Int) := by rw [wrap_in (by omega) (by omega)]; omega
    have hz := ownAt_zero L t.nodes[k].own.length (L.length - t.nodes[k].own.length) (by omega)
    unfold ownE at hN
    obtain ⟨f, hf⟩ : ∃ f, ownAt L t.nodes[k].own.length = f := ⟨_, rfl⟩
    have hfk : ∀ j, (hk : j < L.length) → L.length - t.nodes[k].own.length ≤ j → f j = attE L[j] (L.take j) := fun j hk hge => by
     rw [← hf, ownAt, if_neg (by omega), at_getD hk]
    rw [hf] at hN hz
    try (simp [hi, hwi])
    repeat (refine sR ?_; simp [hi, hwi])
    refine Stop.of_d (hin _ _) ?_
    simp
    try (simp)
    repeat (refine sR ?_; simp)
    refine sC ?_
    simp
    try (simp [hi])
    repeat (refine sR ?_; simp [hi])
    refine Stop.of_d (hc) ?_
    simp
    have hkk := hk htok
    by_cases e5 : 4 < t.nodes[k].own.length
    ·have e5' : (4 : Int) < t.nodes[k].own.length := by omega
     rw [if_pos e5] at hN
     try (simp [hi, e5, e5'])
     repeat (refine sR ?_; simp [hi, e5, e5'])
     refine sC ?_
     simp [e5, e5']
     try (simp)
     repeat (refine sR ?_; simp)
     refine sT ?_
     try simp only [AU]
     refine ⟨by simp, sF hbox htok hkk.old hkk.le ?_⟩
     simp [packA, ← hN]
    ·have e5' : ¬ (4 : Int) < t.nodes[k].own.length := by omega
     rw [if_neg e5] at hN
     by_cases e6 : 8 < L.length
     ·have e6' : (8 : Int) < L.length := by omega
      rw [if_pos e6] at hN
      try (simp [hi, e5, e5', e6, e6'])
      repeat (refine sR ?_; simp [hi, e5, e5', e6, e6'])
      refine sC ?_
      simp [e6, e6']
      try (simp)
      repeat (refine sR ?_; simp)
      refine sT ?_
      try simp only [AU]
      refine ⟨by simp, sF hbox htok hkk.old hkk.le ?_⟩
      simp [packA, ← hN]
     ·have e6' : ¬ (8 : Int) < L.length := by omega
      rw [if_neg e6] at hN
      try (simp [hi, e5, e5', e6, e6'])
      repeat (refine sR ?_; simp [hi, e5, e5', e6, e6'])
      refine sC ?_
      simp [e6, e6']
      try (simp [hi, hw0])
      repeat (refine sR ?_; simp [hi, hw0])
      have hal3 : L.length - t.nodes[k].own.length ≤ L.length := Nat.sub_le _ _
      generalize L.length - t.nodes[k].own.length = a at *
      refine sN ?_
      refine AL.loopT (stNr2 L nb box tok1 nt1) (fun k => a ≤ k ∧ k ≤ L.length ∧ firstE f k = 0) (fun k => L.length - k) a ⟨Nat.le_refl _, by omega, hz⟩ (Weaks.mk (by have := hkk.le; omega) rfl (by simp [ToL, lk, To.data]) trivial) ?_
      rintro k S' ⟨hak, hkl, hok⟩ hS
      simp only [stNr2] at hS
      subst hS
      have hw := sW (i := k) (by omega)
      try (simp)
      repeat (refine sR ?_; simp)
      refine sC ?_
      simp
      refine ⟨fun hlt => ?_, fun hge => ?_⟩
      ·have hA := hfk k hlt hak
       have hR : f k ≠ 0 → firstE f L.length = f k := fun h0 => firstE_stop hok h0 L.length hlt
       have hnx : f k = 0 → firstE f (k + 1) = 0 := fun h0 => by simp only [firstE, hok, h0, ↓reduceIte]
       generalize f k = E at *
       rw [attE_attS] at hA
       have hfx := haf _ (List.getElem_mem hlt)
       have hn := isName01_c L[k].name (Nat.le_trans hfx.n (by decide))
       have hc2 := attribute04_c L[k] hfx
       try (simp [hlt, atts_at hlt])
       repeat (refine sR ?_; simp [hlt, atts_at hlt])
       refine Stop.of_d (hn _ _) ?_
       simp
       cases f1 : nameB L[k].name
       ·rw [f1, if_pos rfl] at hA
        try (simp)
        repeat (refine sR ?_; simp)
        refine sC ?_
        simp
        try (simp)
        repeat (refine sR ?_; simp)
        refine sT ?_
        try simp only [AU]
        refine ⟨by simp, sF hbox htok hkk.old hkk.le ?_⟩
        simp [packA, ← hN, hR (by omega), hA]
       ·rw [f1, if_neg (by simp)] at hA
        try (simp)
        repeat (refine sR ?_; simp)
        refine sC ?_
        simp
        try (simp)
        repeat (refine sR ?_; simp)
        refine sN ?_
        refine AL.loopT (stNr3 L k nb box tok1 nt1) (fun j => j ≤ k ∧ anyAt (L.take j) L[k].name = false) (fun j => k - j) 0 ⟨Nat.zero_le _, rfl⟩ (Weaks.mk (by have := hkk.le; omega) rfl (by simp [ToL, lk]) trivial) ?_
        rintro j S' ⟨hj, hm2⟩ hS
        simp only [stNr3] at hS
        subst hS
        have hwj := sW (i := j) (by omega)
        try (simp)
        repeat (refine sR ?_; simp)
        refine sC ?_
        simp
        refine ⟨fun hlj => ?_, fun hgj => ?_⟩
        ·have hjl : j < L.length := by omega
         by_cases f2 : L[j].name = L[k].name
         ·have b2 : (L[j].name.toList == L[k].name.toList) = true := by rw [seq_dec]; simp [f2]
          rw [if_pos (anyAt_hit hjl hlj f2)] at hA
          try (simp [hlt, hjl, b2])
          repeat (refine sR ?_; simp [hlt, hjl, b2])
          refine sC ?_
          simp [b2]
          try (simp)
          repeat (refine sR ?_; simp)
          refine sT ?_
          try simp only [AU]
          refine ⟨by simp, sF hbox htok hkk.old hkk.le ?_⟩
          simp [packA, ← hN, hR (by omega), hA]
         ·have b2 : (L[j].name.toList == L[k].name.toList) = false := by rw [seq_dec]; simp [f2]
          try (simp [hlt, hjl, b2])
          repeat (refine sR ?_; simp [hlt, hjl, b2])
          refine sC ?_
          simp [b2]
          try (simp [hwj])
          repeat (refine sR ?_; simp [hwj])
          refine sE ?_
          exact ⟨j + 1, ⟨hlj, anyAt_more hjl hm2 f2⟩, by omega, Weaks.mk (by have := hkk.le; omega) rfl (by simp [ToL, lk]) trivial⟩
        ·refine sX ?_
         simp only [AU, ↓reduceIte]
         have : j = k := by omega
         subst this
         rw [hm2, if_neg (by simp)] at hA
         rw [← hA] at hc2
         try (simp [hlt, atts_at hlt])
         repeat (refine sR ?_; simp [hlt, atts_at hlt])
         refine Stop.of_d (hc2 _ _) ?_
         simp
         try (simp)
         repeat (refine sR ?_; simp)
         by_cases e7 : E = 0
         ·refine sC ?_
          simp [e7]
          try (simp [hw])
          repeat (refine sR ?_; simp [hw])
          refine sE ?_
          exact ⟨j + 1, ⟨by omega, hlt, hnx e7⟩, by omega, Weaks.mk (by have := hkk.le; omega) rfl (by simp [ToL, lk]) trivial⟩
         ·have b7 : (E != 0) = true := by simp [e7]
          refine sC ?_
          simp [e7, b7]
          try (simp)
          repeat (refine sR ?_; simp)
          refine sT ?_
          try simp only [AU]
          refine ⟨by simp, sF hbox htok hkk.old hkk.le ?_⟩
          simp [packA, ← hN, hR e7]
      ·refine sX ?_
       simp only [AU, ↓reduceIte]
       try (simp)
       repeat (refine sR ?_; simp)
       have : k = L.length := by omega
       subst this
       refine sT ?_
       try simp only [AU]
       refine ⟨by simp, sF hbox htok hkk.old hkk.le ?_⟩
       simp [packA, ← hN, hok]
end Go.AM
namespace Go.AM
open Go Go.Proofs
instance : Inhabited ET := ⟨⟨eB, 0, 0, 0, 0, 0, 0⟩⟩
def Ty.ed (t : Ty) (i : Nat) : ET := t.edges.getD i default
theorem ed_at {t : Ty} {i : Nat} (h : i < t.edges.length) : t.ed i = t.edges[i] := by simp [Ty.ed, h]
def anyE (l : List ET) (s : ByteArray) : Bool := anyB (fun y => decide (y.name = s)) l
theorem anyE_iff {l : List ET} {s : ByteArray} : anyE l s = true ↔ ∃ x ∈ l, x.name = s := by simp [anyE, anyB]
theorem anyE_more {l : List ET} {i : Nat} {s : ByteArray} (hi : i < l.length) (h : anyE (l.take i) s = false) (hne : l[i].name ≠ s) : anyE (l.take (i + 1)) s = false := by
 rw [← Bool.not_eq_true, anyE_iff] at h ⊢
 rintro ⟨x, hx, he⟩
 rw [List.take_succ_eq_append_getElem hi, List.mem_append, List.mem_singleton] at hx
 rcases hx with hx | hx
 ·exact h ⟨x, hx, he⟩
 ·exact hne (by rw [← hx]; exact he)
theorem anyE_hit {l : List ET} {k i : Nat} {s : ByteArray} (hk : k < l.length) (hki : k < i) (he : l[k].name = s) : anyE (l.take i) s = true :=
 anyE_iff.2 ⟨l[k], by rw [List.mem_take_iff_getElem]; exact ⟨k, by omega, rfl⟩, he⟩
def edR (t : Ty) (x : ET) : Int := if insB t x.fr = false then 6 else if insB t x.to = false then 6 else if bndB x.ol x.oh = false then 6 else if bndB x.il x.ih = false then 6 else 0
def edgE (t : Ty) (i : Nat) : Int :=
 if nameB (t.ed i).name = false then 2 else if anyE (t.edges.take i) (t.ed i).name = true then 5 else edR t (t.ed i)
set_option maxRecDepth 100000 in
theorem edge_c (t : Ty) (ht : t.Fit) (i : Nat) (hi : i < t.edges.length) (tok : Tks) (nt : Nat) : DCall Tryz.prog 134 [t.av, I i] tok nt (I (edgE t i)) tok nt := by
 intro box nb
 have hnd := ed_at hi
 have hmem := List.getElem_mem hi
 have hte := ht.e
 have h1 := isName_c (t.ed i).name (by rw [hnd]; exact Nat.le_trans (ht.en _ hmem) (by decide))
 obtain ⟨N, hN⟩ : ∃ N, edgE t i = N := ⟨_, rfl⟩
 rw [hN]
 unfold edgE at hN
 rw [hnd] at h1 hN
 cases e1 : nameB t.edges[i].name
 ·rw [e1] at h1 hN
  rw [if_pos rfl] at hN
  refine sB Tryz.func134 Tryz.ntmps134 ?_
  intro hbox htok
  simp only at hbox htok
  apply AL.start
  try (simp [hi])
  repeat (refine sR ?_; simp [hi])
  refine Stop.of_d (h1 _ _) ?_
  simp
  try (simp)
  repeat (refine sR ?_; simp)
  refine sC ?_
  simp
  try (simp)
  repeat (refine sR ?_; simp)
  refine sT ?_
  try simp only [AU]
  refine ⟨by simp, sF hbox htok (fun _ h => h) (Nat.le_refl _) ?_⟩
  simp [packA, ← hN]
 ·rw [e1] at h1 hN
  rw [if_neg (by simp)] at hN
  unfold anyE at hN
  obtain ⟨p, hpp⟩ : ∃ p : ET → Bool, (fun y => decide (y.name = t.edges[i].name)) = p := ⟨_, rfl⟩
  have h2 := fun y box nb k (hbk : box k = some [(t.edges[i]'hi).row]) => edge2_c (t.edges[i]'hi) y box nb k tok nt hbk
  have hpy : ∀ y : ET, decide (y.name = t.edges[i].name) = p y := fun y => by rw [← hpp]
  simp only [hpy] at h2
  rw [hpp] at hN
  refine sB Tryz.func134 Tryz.ntmps134 ?_
  intro hbox htok
  simp only at hbox htok
  apply AL.start
  try (simp [hi])
  repeat (refine sR ?_; simp [hi])
  refine Stop.of_d (h1 _ _) ?_
  simp
  try (simp)
  repeat (refine sR ?_; simp)
  refine sC ?_
  simp
  try (simp [hi])
  repeat (refine sR ?_; simp [hi])
  try refine ⟨by omega, ?_⟩
  have hcf := fun (b : Bxs) nb' h3 h4 => containsFuncE2_c (t.edges.take i) 216 [.ptr (nb + 5) 0 0] p (by simp; have := ht.e; omega) b nb' tok nt h3 h4
  rw [show ets (t.edges.take i) = .sl 7 (List.take i (t.edges.map ET.cells)) by rw [ets, List.map_take]] at hcf
  refine Stop.of_b (hcf _ _ (fun c hc => by rw [List.mem_singleton.1 hc]; simp [lb_at]) (fun y hy box' nb' he => h2 y box' nb' _ (he _ _ (by simp [lb_at])))) ?_
  simp
  cases e2 : anyB p (t.edges.take i)
  ·rw [e2, if_neg (by simp)] at hN
   unfold edR at hN
   have b1 := bounded_c t.edges[i].ol t.edges[i].oh
   have b2 := bounded_c t.edges[i].il t.edges[i].ih
   refine sC ?_
   simp
   try (simp)
   repeat (refine sR ?_; simp)
   refine Stop.of_b (edge1_c t t.edges[i].fr _ _ (nb + 2) _ _ (by simp [lb_at])) ?_
   simp
   cases g1 : insB t t.edges[i].fr
   ·rw [g1, if_pos rfl] at hN
    try (simp)
    repeat (refine sR ?_; simp)
    refine sC ?_
    simp
    try (simp)
    repeat (refine sR ?_; simp)
    refine sC ?_
    simp
    try (simp)
    repeat (refine sR ?_; simp)
    refine sT ?_
    try simp only [AU]
    refine ⟨by simp, sF hbox htok (fun _ h => h) (Nat.le_refl _) ?_⟩
    simp [packA, ← hN]
   ·rw [g1, if_neg (by simp)] at hN
    try (simp)
    repeat (refine sR ?_; simp)
    refine Stop.of_b (edge1_c t t.edges[i].to _ _ (nb + 2) _ _ (by simp [lb_at])) ?_
    simp
    cases g2 : insB t t.edges[i].to
    ·rw [g2, if_pos rfl] at hN
     try (simp)
     repeat (refine sR ?_; simp)
     refine sC ?_
     simp
     try (simp)
     repeat (refine sR ?_; simp)
     refine sC ?_
     simp
     try (simp)
     repeat (refine sR ?_; simp)
     refine sT ?_
     try simp only [AU]
     refine ⟨by simp, sF hbox htok (fun _ h => h) (Nat.le_refl _) ?_⟩
     simp [packA, ← hN]
    ·rw [g2, if_neg (by simp)] at hN
     try (simp)
     repeat (refine sR ?_; simp)
     refine sC ?_
     simp
     try (simp)
     repeat (refine sR ?_; simp)
     refine Stop.of_d (b1 _ _) ?_
     simp
     cases g3 : bndB t.edges[i].ol t.edges[i].oh
     ·rw [g3, if_pos rfl] at hN
      try (simp)
      repeat (refine sR ?_; simp)
      refine sC ?_
      simp
      try (simp)
      repeat (refine sR ?_; simp)
      refine sT ?_
      try simp only [AU]
      refine ⟨by simp, sF hbox htok (fun _ h => h) (Nat.le_refl _) ?_⟩
      simp [packA, ← hN]
     ·rw [g3, if_neg (by simp)] at hN
      try (simp)
      repeat (refine sR ?_; simp)
      refine Stop.of_d (b2 _ _) ?_
      simp
      cases g4 : bndB t.edges[i].il t.edges[i].ih
      ·rw [g4, if_pos rfl] at hN
       try (simp)
       repeat (refine sR ?_; simp)
       refine sC ?_
       simp
       try (simp)
       repeat (refine sR ?_; simp)
       refine sT ?_
       try simp only [AU]
       refine ⟨by simp, sF hbox htok (fun _ h => h) (Nat.le_refl _) ?_⟩
       simp [packA, ← hN]
      ·rw [g4, if_neg (by simp)] at hN
       try (simp)
       repeat (refine sR ?_; simp)
       refine sC ?_
       simp
       try (simp)
       repeat (refine sR ?_; simp)
       refine sT ?_
       try simp only [AU]
       refine ⟨by simp, sF hbox htok (fun _ h => h) (Nat.le_refl _) ?_⟩
       simp [packA, ← hN]
  ·rw [e2, if_pos rfl] at hN
   refine sC ?_
   simp
   try (simp)
   repeat (refine sR ?_; simp)
   refine sT ?_
   try simp only [AU]
   refine ⟨by simp, sF hbox htok (fun _ h => h) (Nat.le_refl _) ?_⟩
   simp [packA, ← hN]
def stEr (t : Ty) (i : Nat) (x : ET) (nb : Nat) (box : Bxs) (tok : Tks) (nt : Nat) (k : Nat) : AState := ⟨tl [(6, I k), (5, .ptr (nb + 5) 0 0), (2, .ptr (nb + 2) 0 0), (1, I i)], lb nb box [(5, [x.row]), (2, [[.d (nts t.nodes), .d (ets t.edges)]])], tok, nt⟩
theorem edge04_c (t : Ty) (ht : t.Fit) (i : Nat) (hi : i < t.edges.length) (tok : Tks) (nt : Nat) : DCall Tryz.prog 140 [t.av, I i] tok nt (I (edgE t i)) tok nt := by
 intro box nb
 have hnd := ed_at hi
 have hmem := List.getElem_mem hi
 have hte := ht.e
 have htn := ht.n
 have h1 := isName01_c (t.ed i).name (by rw [hnd]; exact Nat.le_trans (ht.en _ hmem) (by decide))
 obtain ⟨N, hN⟩ : ∃ N, edgE t i = N := ⟨_, rfl⟩
 rw [hN]
 unfold edgE at hN
 rw [hnd] at h1 hN
 have i1 := in04_c t.edges[i].fr 0 ((t.nodes.length : Int) - 1)
 have i2 := in04_c t.edges[i].to 0 ((t.nodes.length : Int) - 1)
 have b1 := bound04_c t.edges[i].ol t.edges[i].oh
 have b2 := bound04_c t.edges[i].il t.edges[i].ih
 have hins : ∀ n : Int, inZ n 0 ((t.nodes.length : Int) - 1) = insB t n := fun n => by simp only [inZ, insB]; congr 1; simp only [eq_iff_iff]; omega
 rw [hins] at i1 i2
 have hw0 : IntKind.i64.wrap ((t.nodes.length : Int) - 1) = (t.nodes.length : Int) - 1 := by rw [wrap_in (by omega) (by omega)]
 cases e1 : nameB t.edges[i].name
 ·rw [e1] at h1 hN
  rw [if_pos rfl] at hN
  refine sB Tryz.func140 Tryz.ntmps140 ?_
  intro hbox htok
  simp only at hbox htok
  apply AL.start
  try (simp [hi])
  repeat (refine sR ?_; simp [hi])
  refine Stop.of_d (h1 _ _) ?_
  simp
  try (simp)
  repeat (refine sR ?_; simp)
  refine sC ?_
  simp
  try (simp)
  repeat (refine sR ?_; simp)
  refine sT ?_
  try simp only [AU]
  refine ⟨by simp, sF hbox htok (fun _ h => h) (Nat.le_refl _) ?_⟩
  simp [packA, ← hN]
 ·rw [e1] at h1 hN
  rw [if_neg (by simp)] at hN
  refine sB Tryz.func140 Tryz.ntmps140 ?_
  intro hbox htok
  simp only at hbox htok
  apply AL.start
  try (simp [hi])
  repeat (refine sR ?_; simp [hi])
  refine Stop.of_d (h1 _ _) ?_
  simp
  try (simp)
  repeat (refine sR ?_; simp)
  refine sC ?_
  simp
  try (simp)
  repeat (refine sR ?_; simp)
  refine sN ?_
  refine AL.loopT (stEr t i t.edges[i] nb box tok nt) (fun k => k ≤ i ∧ anyE (t.edges.take k) t.edges[i].name = false) (fun k => i - k) 0 ⟨Nat.zero_le _, rfl⟩ (Weaks.mk (Nat.le_refl _) rfl (by simp [ToL, lk, lb_at]) (by simp [BoxL, lk])) ?_
  rintro k S' ⟨hk, hm⟩ hS
  simp only [stEr] at hS
  subst hS
  have hwk := sW (i := k) (by omega)
  try (simp)
  repeat (refine sR ?_; simp)
  refine sC ?_
  simp
  refine ⟨fun hlk => ?_, fun hge => ?_⟩
  ·have hkl : k < t.edges.length := by omega
   by_cases e2 : t.edges[k].name = t.edges[i].name
   ·have b2 : (t.edges[k].name.toList == t.edges[i].name.toList) = true := by rw [seq_dec]; simp [e2]
    rw [if_pos (anyE_hit hkl hlk e2)] at hN
    try (simp [hi, hkl, b2])
    repeat (refine sR ?_; simp [hi, hkl, b2])
    refine sC ?_
    simp [b2]
    try (simp)
    repeat (refine sR ?_; simp)
    refine sT ?_
    try simp only [AU]
    refine ⟨by simp, sF hbox htok (fun _ h => h) (Nat.le_refl _) ?_⟩
    simp [packA, ← hN]
   ·have b2 : (t.edges[k].name.toList == t.edges[i].name.toList) = false := by rw [seq_dec]; simp [e2]
    try (simp [hi, hkl, b2])
    repeat (refine sR ?_; simp [hi, hkl, b2])
    refine sC ?_
    simp [b2]
    try (simp [hwk])
    repeat (refine sR ?_; simp [hwk])
    refine sE ?_
    exact ⟨k + 1, ⟨hlk, anyE_more hkl hm e2⟩, by omega, Weaks.mk (Nat.le_refl _) rfl (by simp [ToL, lk, lb_at]) (by simp [BoxL, lk])⟩
  ·refine sX ?_
   simp only [AU, ↓reduceIte]
   have : k = i := by omega
   subst this
   rw [hm, if_neg (by simp)] at hN
   unfold edR at hN
   try (simp [hi, hw0])
   repeat (refine sR ?_; simp [hi, hw0])
   refine Stop.of_d (i1 _ _) ?_
   simp
   cases g1 : insB t t.edges[k].fr
   ·rw [g1, if_pos rfl] at hN
    try (simp)
    repeat (refine sR ?_; simp)
    refine sC ?_
    simp
    try (simp)
    repeat (refine sR ?_; simp)
    refine sT ?_
    try simp only [AU]
    refine ⟨by simp, sF hbox htok (fun _ h => h) (Nat.le_refl _) ?_⟩
    simp [packA, ← hN]
   ·rw [g1, if_neg (by simp)] at hN
    try (simp)
    repeat (refine sR ?_; simp)
    refine Stop.of_d (i2 _ _) ?_
    simp
    cases g2 : insB t t.edges[k].to
    ·rw [g2, if_pos rfl] at hN
     try (simp)
     repeat (refine sR ?_; simp)
     refine sC ?_
     simp
     try (simp)
     repeat (refine sR ?_; simp)
     refine sT ?_
     try simp only [AU]
     refine ⟨by simp, sF hbox htok (fun _ h => h) (Nat.le_refl _) ?_⟩
     simp [packA, ← hN]
    ·rw [g2, if_neg (by simp)] at hN
     try (simp)
     repeat (refine sR ?_; simp)
     refine Stop.of_d (b1 _ _) ?_
     simp
     cases g3 : bndB t.edges[k].ol t.edges[k].oh
     ·rw [g3, if_pos rfl] at hN
      try (simp)
      repeat (refine sR ?_; simp)
      refine sC ?_
      simp
      try (simp)
      repeat (refine sR ?_; simp)
      refine sT ?_
      try simp only [AU]
      refine ⟨by simp, sF hbox htok (fun _ h => h) (Nat.le_refl _) ?_⟩
      simp [packA, ← hN]
     ·rw [g3, if_neg (by simp)] at hN
      try (simp)
      repeat (refine sR ?_; simp)
      refine Stop.of_d (b2 _ _) ?_
      simp
      cases g4 : bndB t.edges[k].il t.edges[k].ih
      ·rw [g4, if_pos rfl] at hN
       try (simp)
       repeat (refine sR ?_; simp)
       refine sC ?_
       simp
       try (simp)
       repeat (refine sR ?_; simp)
       refine sT ?_
       try simp only [AU]
       refine ⟨by simp, sF hbox htok (fun _ h => h) (Nat.le_refl _) ?_⟩
       simp [packA, ← hN]
      ·rw [g4, if_neg (by simp)] at hN
       try (simp)
       repeat (refine sR ?_; simp)
       refine sC ?_
       simp
       try (simp)
       repeat (refine sR ?_; simp)
       refine sT ?_
       try simp only [AU]
       refine ⟨by simp, sF hbox htok (fun _ h => h) (Nat.le_refl _) ?_⟩
       simp [packA, ← hN]
end Go.AM
namespace Go.AM
open Go Go.Proofs
def firstN (f : Nat → Int) (g : Nat → ByteArray) : Nat → ByteArray
 | 0 => eB
 | n + 1 => if firstE f n = 0 then (if f n = 0 then eB else g n) else firstN f g n
theorem firstN_stop {f : Nat → Int} {g : Nat → ByteArray} {i : Nat} (h0 : firstE f i = 0) (h : f i ≠ 0) : ∀ n, i < n → firstN f g n = g i
 | 0, hi => absurd hi (Nat.not_lt_zero _)
 | n + 1, hi => by
  simp only [firstN]
  by_cases e : i = n
  ·subst e
   rw [if_pos h0, if_neg h]
  ·have := firstE_stop h0 h n (by omega)
   rw [if_neg (by rw [this]; exact h), firstN_stop h0 h n (by omega)]
theorem firstN_none {f : Nat → Int} {g : Nat → ByteArray} : ∀ n, firstE f n = 0 → firstN f g n = eB
 | 0, _ => rfl
 | n + 1, h => by
  simp only [firstE] at h
  split at h
  ·rename_i h1
   rw [firstN, if_pos h1, if_pos h]
  ·rename_i h1
   exact absurd h h1
def tyE (t : Ty) : Int :=
 if t.nodes.length = 0 then 7 else if 12 < t.nodes.length then 3 else if 20 < t.edges.length then 3
 else if firstE (nodE t) t.nodes.length ≠ 0 then firstE (nodE t) t.nodes.length else firstE (edgE t) t.edges.length
def tyN (t : Ty) : ByteArray :=
 if t.nodes.length = 0 then eB else if 12 < t.nodes.length then eB else if 20 < t.edges.length then eB
 else if firstE (nodE t) t.nodes.length ≠ 0 then firstN (nodE t) (fun i => (t.nd i).name) t.nodes.length else firstN (edgE t) (fun i => (t.ed i).name) t.edges.length
theorem nodE_par {t : Ty} {i : Nat} (h : nodE t i = 0) : (t.nd i).par < i := by
 unfold nodE at h
 split at h
 ·cases h
 ·split at h
  ·cases h
  ·split at h
   ·cases h
   ·omega
theorem firstE_allZ {f : Nat → Int} : ∀ n, firstE f n = 0 → ∀ i, i < n → f i = 0
 | 0, _, i, hi => absurd hi (Nat.not_lt_zero _)
 | n + 1, h, i, hi => by
  simp only [firstE] at h
  split at h
  ·rename_i h1
   by_cases e : i = n
   ·subst e; exact h
   ·exact firstE_allZ n h1 i (by omega)
  ·rename_i h1
   exact absurd h h1
def stV4n (t : Ty) (nb : Nat) (box : Bxs) (tok : Tks) (nt : Nat) (i : Nat) : AState := ⟨tl [(4, I i), (1, .ptr (nb + 1) 0 0)], lb nb box [(1, [[.d (nts t.nodes), .d (ets t.edges)]])], tok, nt⟩
def stV4e (t : Ty) (nb : Nat) (box : Bxs) (tok : Tks) (nt : Nat) (i : Nat) : AState := ⟨tl [(6, I i), (1, .ptr (nb + 1) 0 0)], lb nb box [(1, [[.d (nts t.nodes), .d (ets t.edges)]])], tok, nt⟩
theorem valid04_c (t : Ty) (ht : t.Fit) (hM : ∀ i, (t.nd i).own.length ≤ 1000) (tok : Tks) (nt : Nat) : DCall Tryz.prog 70 [t.av] tok nt (.tup [Sb (tyN t), I (tyE t)]) tok nt := by
 intro box nb
 have htn := ht.n
 have hte := ht.e
 obtain ⟨N, hN⟩ : ∃ N, tyE t = N := ⟨_, rfl⟩
 obtain ⟨Z, hZ⟩ : ∃ Z, tyN t = Z := ⟨_, rfl⟩
 rw [hN, hZ]
 unfold tyE at hN
 unfold tyN at hZ
 by_cases e1 : t.nodes.length = 0
 ·have e1' : t.nodes = [] := List.length_eq_zero_iff.1 e1
  rw [if_pos e1] at hN hZ
  refine sB Tryz.func70 Tryz.ntmps70 ?_
  intro hbox htok
  simp only at hbox htok
  apply AL.start
  try (simp [e1'])
  repeat (refine sR ?_; simp [e1'])
  refine sC ?_
  simp [e1']
  try (simp)
  repeat (refine sR ?_; simp)
  refine sT ?_
  try simp only [AU]
  refine ⟨by simp, sF hbox htok (fun _ h => h) (Nat.le_refl _) ?_⟩
  simp [packA, ← hN, ← hZ]
 ·have e1' : ¬ t.nodes = [] := fun h => e1 (by rw [h]; rfl)
  rw [if_neg e1] at hN hZ
  by_cases e2 : 12 < t.nodes.length
  ·have e2' : (12 : Int) < t.nodes.length := by omega
   rw [if_pos e2] at hN hZ
   refine sB Tryz.func70 Tryz.ntmps70 ?_
   intro hbox htok
   simp only at hbox htok
   apply AL.start
   try (simp [e1', e2, e2'])
   repeat (refine sR ?_; simp [e1', e2, e2'])
   refine sC ?_
   simp [e1', e2, e2']
   try (simp [e2, e2'])
   repeat (refine sR ?_; simp [e2, e2'])
   refine sC ?_
   simp [e2, e2']
   try (simp)
   repeat (refine sR ?_; simp)
   refine sT ?_
   try simp only [AU]
   refine ⟨by simp, sF hbox htok (fun _ h => h) (Nat.le_refl _) ?_⟩
   simp [packA, ← hN, ← hZ]
  ·have e2' : ¬ (12 : Int) < t.nodes.length := by omega
   rw [if_neg e2] at hN hZ
   by_cases e3 : 20 < t.edges.length
   ·have e3' : (20 : Int) < t.edges.length := by omega
    rw [if_pos e3] at hN hZ
    refine sB Tryz.func70 Tryz.ntmps70 ?_
    intro hbox htok
    simp only at hbox htok
    apply AL.start
    try (simp [e1', e2, e2', e3, e3'])
    repeat (refine sR ?_; simp [e1', e2, e2', e3, e3'])
    refine sC ?_
    simp [e1', e2, e2']
    try (simp [e2, e2', e3, e3'])
    repeat (refine sR ?_; simp [e2, e2', e3, e3'])
    refine sC ?_
    simp [e2, e2', e3, e3']
    try (simp)
    repeat (refine sR ?_; simp)
    refine sT ?_
    try simp only [AU]
    refine ⟨by simp, sF hbox htok (fun _ h => h) (Nat.le_refl _) ?_⟩
    simp [packA, ← hN, ← hZ]
   ·have e3' : ¬ (20 : Int) < t.edges.length := by omega
    rw [if_neg e3] at hN hZ
    refine sB Tryz.func70 Tryz.ntmps70 ?_
    intro hbox htok
    simp only at hbox htok
    apply AL.start
    try (simp [e1', e2, e2', e3, e3'])
    repeat (refine sR ?_; simp [e1', e2, e2', e3, e3'])
    refine sC ?_
    simp [e1', e2, e2']
    try (simp [e2, e2', e3, e3'])
    repeat (refine sR ?_; simp [e2, e2', e3, e3'])
    refine sC ?_
    simp [e2, e2', e3, e3']
    try (simp)
    repeat (refine sR ?_; simp)
    refine sN ?_
    refine AL.loopT (stV4n t nb box tok nt) (fun i => i ≤ t.nodes.length ∧ firstE (nodE t) i = 0) (fun i => t.nodes.length - i) 0 ⟨Nat.zero_le _, rfl⟩ (Weaks.mk (Nat.le_refl _) rfl (by simp [ToL, lk, lb_at]) (by simp [BoxL, lk])) ?_
    rintro i S' ⟨hi, hok⟩ hS
    simp only [stV4n] at hS
    subst hS
    have hw := sW (i := i) (by omega)
    try (simp)
    repeat (refine sR ?_; simp)
    refine sC ?_
    simp
    refine ⟨fun hlt => ?_, fun hge => ?_⟩
    ·have hc := node04_c t ht hM i hlt (fun j hj => nodE_par (firstE_allZ i hok j hj))
     have hR : nodE t i ≠ 0 → firstE (nodE t) t.nodes.length = nodE t i := fun h0 => firstE_stop hok h0 _ hlt
     have hR2 : nodE t i ≠ 0 → firstN (nodE t) (fun i => (t.nd i).name) t.nodes.length = t.nodes[i].name := fun h0 => by rw [firstN_stop hok h0 _ hlt, nd_at hlt]
     have hnx : nodE t i = 0 → firstE (nodE t) (i + 1) = 0 := fun h0 => by simp only [firstE, hok, h0, ↓reduceIte]
     generalize nodE t i = E at *
     try (simp [hlt])
     repeat (refine sR ?_; simp [hlt])
     refine Stop.of_d (hc _ _) ?_
     simp
     try (simp)
     repeat (refine sR ?_; simp)
     by_cases e7 : E = 0
     ·refine sC ?_
      simp [e7]
      try (simp [hw])
      repeat (refine sR ?_; simp [hw])
      refine sE ?_
      exact ⟨i + 1, ⟨hlt, hnx e7⟩, by omega, Weaks.mk (Nat.le_refl _) rfl (by simp [ToL, lk, lb_at]) (by simp [BoxL, lk])⟩
     ·have b7 : (E != 0) = true := by simp [e7]
      rw [hR e7, if_pos e7] at hN hZ
      rw [hR2 e7] at hZ
      refine sC ?_
      simp [e7, b7]
      try (simp [hlt])
      repeat (refine sR ?_; simp [hlt])
      refine sT ?_
      try simp only [AU]
      refine ⟨by simp, sF hbox htok (fun _ h => h) (Nat.le_refl _) ?_⟩
      simp [packA, ← hN, ← hZ]
    ·refine sX ?_
     simp only [AU, ↓reduceIte]
     have : i = t.nodes.length := by omega
     subst this
     rw [if_neg (by rw [hok]; simp)] at hN hZ
     try (simp)
     repeat (refine sR ?_; simp)
     refine sN ?_
     refine AL.loopT (stV4e t nb box tok nt) (fun i => i ≤ t.edges.length ∧ firstE (edgE t) i = 0) (fun i => t.edges.length - i) 0 ⟨Nat.zero_le _, rfl⟩ (Weaks.mk (Nat.le_refl _) rfl (by simp [ToL, lk, lb_at]) (by simp [BoxL, lk])) ?_
     rintro i S' ⟨hi, hok2⟩ hS
     simp only [stV4e] at hS
     subst hS
     have hw := sW (i := i) (by omega)
     try (simp)
     repeat (refine sR ?_; simp)
     refine sC ?_
     simp
     refine ⟨fun hlt => ?_, fun hge => ?_⟩
     ·have hc := edge04_c t ht i hlt
      have hR : edgE t i ≠ 0 → firstE (edgE t) t.edges.length = edgE t i := fun h0 => firstE_stop hok2 h0 _ hlt
      have hR2 : edgE t i ≠ 0 → firstN (edgE t) (fun i => (t.ed i).name) t.edges.length = t.edges[i].name := fun h0 => by rw [firstN_stop hok2 h0 _ hlt, ed_at hlt]
      have hnx : edgE t i = 0 → firstE (edgE t) (i + 1) = 0 := fun h0 => by simp only [firstE, hok2, h0, ↓reduceIte]
      generalize edgE t i = E at *
      try (simp [hlt])
      repeat (refine sR ?_; simp [hlt])
      refine Stop.of_d (hc _ _) ?_
      simp
      try (simp)
      repeat (refine sR ?_; simp)
      by_cases e7 : E = 0
      ·refine sC ?_
       simp [e7]
       try (simp [hw])
       repeat (refine sR ?_; simp [hw])
       refine sE ?_
       exact ⟨i + 1, ⟨hlt, hnx e7⟩, by omega, Weaks.mk (Nat.le_refl _) rfl (by simp [ToL, lk, lb_at]) (by simp [BoxL, lk])⟩
      ·have b7 : (E != 0) = true := by simp [e7]
       rw [hR e7] at hN
       rw [hR2 e7] at hZ
       refine sC ?_
       simp [e7, b7]
       try (simp [hlt])
       repeat (refine sR ?_; simp [hlt])
       refine sT ?_
       try simp only [AU]
       refine ⟨by simp, sF hbox htok (fun _ h => h) (Nat.le_refl _) ?_⟩
       simp [packA, ← hN, ← hZ]
     ·refine sX ?_
      simp only [AU, ↓reduceIte]
      have : i = t.edges.length := by omega
      subst this
      rw [hok2] at hN
      rw [firstN_none _ hok2] at hZ
      try (simp)
      repeat (refine sR ?_; simp)
      refine sT ?_
      try simp only [AU]
      refine ⟨by simp, sF hbox htok (fun _ h => h) (Nat.le_refl _) ?_⟩
      simp [packA, ← hN, ← hZ]
end Go.AM
namespace Go.AM
open Go Go.Proofs
def stVn (t : Ty) (nb : Nat) (box : Bxs) (tok : Tks) (nt : Nat) (i : Nat) : AState := ⟨tl [(29, I i), (28, I t.nodes.length), (27, .d (nts t.nodes)), (1, .ptr (nb + 1) 0 0)], lb nb box [(1, [[.d (nts t.nodes), .d (ets t.edges)]])], tok, nt⟩
def stVe (t : Ty) (nb : Nat) (box : Bxs) (tok : Tks) (nt : Nat) (i : Nat) : AState := ⟨tl [(46, I i), (45, I t.edges.length), (44, .d (ets t.edges)), (1, .ptr (nb + 1) 0 0)], lb nb box [(1, [[.d (nts t.nodes), .d (ets t.edges)]])], tok, nt⟩
theorem valid_c4 (t : Ty) (ht : t.Fit) (hM : ∀ i, (t.nd i).own.length ≤ 1000) (tok : Tks) (nt : Nat) : DCall Tryz.prog 66 [t.av] tok nt (.tup [Sb (tyN t), I (tyE t)]) tok nt := by
 intro box nb
 have htn := ht.n
 have hte := ht.e
 obtain ⟨N, hN⟩ : ∃ N, tyE t = N := ⟨_, rfl⟩
 obtain ⟨Z, hZ⟩ : ∃ Z, tyN t = Z := ⟨_, rfl⟩
 rw [hN, hZ]
 unfold tyE at hN
 unfold tyN at hZ
 by_cases e1 : t.nodes.length = 0
 ·have e1' : t.nodes = [] := List.length_eq_zero_iff.1 e1
  rw [if_pos e1] at hN hZ
  refine sB Tryz.func66 Tryz.ntmps66 ?_
  intro hbox htok
  simp only at hbox htok
  apply AL.start
  try (simp [e1'])
  repeat (refine sR ?_; simp [e1'])
  refine sC ?_
  simp [e1']
  try (simp)
  repeat (refine sR ?_; simp)
  refine sT ?_
  try simp only [AU]
  refine ⟨by simp, sF hbox htok (fun _ h => h) (Nat.le_refl _) ?_⟩
  simp [packA, ← hN, ← hZ]
 ·have e1' : ¬ t.nodes = [] := fun h => e1 (by rw [h]; rfl)
  rw [if_neg e1] at hN hZ
  by_cases e2 : 12 < t.nodes.length
  ·have e2' : (12 : Int) < t.nodes.length := by omega
   rw [if_pos e2] at hN hZ
   refine sB Tryz.func66 Tryz.ntmps66 ?_
   intro hbox htok
   simp only at hbox htok
   apply AL.start
   try (simp [e1', e2, e2'])
   repeat (refine sR ?_; simp [e1', e2, e2'])
   refine sC ?_
   simp [e1', e2, e2']
   try (simp [e2, e2'])
   repeat (refine sR ?_; simp [e2, e2'])
   refine sC ?_
   simp [e2, e2']
   try (simp)
   repeat (refine sR ?_; simp)
   refine sT ?_
   try simp only [AU]
   refine ⟨by simp, sF hbox htok (fun _ h => h) (Nat.le_refl _) ?_⟩
   simp [packA, ← hN, ← hZ]
  ·have e2' : ¬ (12 : Int) < t.nodes.length := by omega
   rw [if_neg e2] at hN hZ
   by_cases e3 : 20 < t.edges.length
   ·have e3' : (20 : Int) < t.edges.length := by omega
    rw [if_pos e3] at hN hZ
    refine sB Tryz.func66 Tryz.ntmps66 ?_
    intro hbox htok
    simp only at hbox htok
    apply AL.start
    try (simp [e1', e2, e2', e3, e3'])
    repeat (refine sR ?_; simp [e1', e2, e2', e3, e3'])
    refine sC ?_
    simp [e1', e2, e2']
    try (simp [e2, e2', e3, e3'])
    repeat (refine sR ?_; simp [e2, e2', e3, e3'])
    refine sC ?_
    simp [e2, e2', e3, e3']
    try (simp)
    repeat (refine sR ?_; simp)
    refine sT ?_
    try simp only [AU]
    refine ⟨by simp, sF hbox htok (fun _ h => h) (Nat.le_refl _) ?_⟩
    simp [packA, ← hN, ← hZ]
   ·have e3' : ¬ (20 : Int) < t.edges.length := by omega
    rw [if_neg e3] at hN hZ
    refine sB Tryz.func66 Tryz.ntmps66 ?_
    intro hbox htok
    simp only at hbox htok
    apply AL.start
    try (simp [e1', e2, e2', e3, e3'])
    repeat (refine sR ?_; simp [e1', e2, e2', e3, e3'])
    refine sC ?_
    simp [e1', e2, e2']
    try (simp [e2, e2', e3, e3'])
    repeat (refine sR ?_; simp [e2, e2', e3, e3'])
    refine sC ?_
    simp [e2, e2', e3, e3']
    try (simp)
    repeat (refine sR ?_; simp)
    refine sN ?_
    refine AL.loopT (stVn t nb box tok nt) (fun i => i ≤ t.nodes.length ∧ firstE (nodE t) i = 0) (fun i => t.nodes.length - i) 0 ⟨Nat.zero_le _, rfl⟩ (Weaks.mk (Nat.le_refl _) rfl (by simp [ToL, lk, lb_at]) (by simp [BoxL, lk])) ?_
    rintro i S' ⟨hi, hok⟩ hS
    simp only [stVn] at hS
    subst hS
    have hw := sW (i := i) (by omega)
    try (simp)
    repeat (refine sR ?_; simp)
    refine sC ?_
    simp
    refine ⟨fun hlt => ?_, fun hge => ?_⟩
    ·have hc := node_c t ht hM i hlt (fun j hj => nodE_par (firstE_allZ i hok j hj))
     have hR : nodE t i ≠ 0 → firstE (nodE t) t.nodes.length = nodE t i := fun h0 => firstE_stop hok h0 _ hlt
     have hR2 : nodE t i ≠ 0 → firstN (nodE t) (fun i => (t.nd i).name) t.nodes.length = t.nodes[i].name := fun h0 => by rw [firstN_stop hok h0 _ hlt, nd_at hlt]
     have hnx : nodE t i = 0 → firstE (nodE t) (i + 1) = 0 := fun h0 => by simp only [firstE, hok, h0, ↓reduceIte]
     generalize nodE t i = E at *
     try (simp [hlt])
     repeat (refine sR ?_; simp [hlt])
     refine Stop.of_d (hc _ _) ?_
     simp
     try (simp)
     repeat (refine sR ?_; simp)
     by_cases e7 : E = 0
     ·refine sC ?_
      simp [e7]
      try (simp [hw])
      repeat (refine sR ?_; simp [hw])
      refine sE ?_
      exact ⟨i + 1, ⟨hlt, hnx e7⟩, by omega, Weaks.mk (Nat.le_refl _) rfl (by simp [ToL, lk, lb_at]) (by simp [BoxL, lk])⟩
     ·have b7 : (E != 0) = true := by simp [e7]
      rw [hR e7, if_pos e7] at hN hZ
      rw [hR2 e7] at hZ
      refine sC ?_
      simp [e7, b7]
      try (simp [hlt])
      repeat (refine sR ?_; simp [hlt])
      refine sT ?_
      try simp only [AU]
      refine ⟨by simp, sF hbox htok (fun _ h => h) (Nat.le_refl _) ?_⟩
      simp [packA, ← hN, ← hZ]
    ·refine sX ?_
     simp only [AU, ↓reduceIte]
     have : i = t.nodes.length := by omega
     subst this
     rw [if_neg (by rw [hok]; simp)] at hN hZ
     try (simp)
     repeat (refine sR ?_; simp)
     refine sN ?_
     refine AL.loopT (stVe t nb box tok nt) (fun i => i ≤ t.edges.length ∧ firstE (edgE t) i = 0) (fun i => t.edges.length - i) 0 ⟨Nat.zero_le _, rfl⟩ (Weaks.mk (Nat.le_refl _) rfl (by simp [ToL, lk, lb_at]) (by simp [BoxL, lk])) ?_
     rintro i S' ⟨hi, hok2⟩ hS
     simp only [stVe] at hS
     subst hS
     have hw := sW (i := i) (by omega)
     try (simp)
     repeat (refine sR ?_; simp)
     refine sC ?_
     simp
     refine ⟨fun hlt => ?_, fun hge => ?_⟩
     ·have hc := edge_c t ht i hlt
      have hR : edgE t i ≠ 0 → firstE (edgE t) t.edges.length = edgE t i := fun h0 => firstE_stop hok2 h0 _ hlt
      have hR2 : edgE t i ≠ 0 → firstN (edgE t) (fun i => (t.ed i).name) t.edges.length = t.edges[i].name := fun h0 => by rw [firstN_stop hok2 h0 _ hlt, ed_at hlt]
      have hnx : edgE t i = 0 → firstE (edgE t) (i + 1) = 0 := fun h0 => by simp only [firstE, hok2, h0, ↓reduceIte]
      generalize edgE t i = E at *
      try (simp [hlt])
      repeat (refine sR ?_; simp [hlt])
      refine Stop.of_d (hc _ _) ?_
      simp
      try (simp)
      repeat (refine sR ?_; simp)
      by_cases e7 : E = 0
      ·refine sC ?_
       simp [e7]
       try (simp [hw])
       repeat (refine sR ?_; simp [hw])
       refine sE ?_
       exact ⟨i + 1, ⟨hlt, hnx e7⟩, by omega, Weaks.mk (Nat.le_refl _) rfl (by simp [ToL, lk, lb_at]) (by simp [BoxL, lk])⟩
      ·have b7 : (E != 0) = true := by simp [e7]
       rw [hR e7] at hN
       rw [hR2 e7] at hZ
       refine sC ?_
       simp [e7, b7]
       try (simp [hlt])
       repeat (refine sR ?_; simp [hlt])
       refine sT ?_
       try simp only [AU]
       refine ⟨by simp, sF hbox htok (fun _ h => h) (Nat.le_refl _) ?_⟩
       simp [packA, ← hN, ← hZ]
     ·refine sX ?_
      simp only [AU, ↓reduceIte]
      have : i = t.edges.length := by omega
      subst this
      rw [hok2] at hN
      rw [firstN_none _ hok2] at hZ
      try (simp)
      repeat (refine sR ?_; simp)
      refine sT ?_
      try simp only [AU]
      refine ⟨by simp, sF hbox htok (fun _ h => h) (Nat.le_refl _) ?_⟩
      simp [packA, ← hN, ← hZ]
end Go.AM
namespace Go.AM
open Go Go.Proofs
structure Ru where
 name : ByteArray
 lg : Gr
 lsl : List Sl
 lv : Int
 lte : List Te
 rg : Gr
 rsl : List Sl
 rv : Int
 rte : List Te
 k : Mo
 i : Mo
 inj : Bool
 c : Cd
abbrev Ru.row (r : Ru) : List AV := [.d (.raw (.string r.name)), .d (ints r.lg.nodes), .d (AM.edges r.lg.edges), .d (slots r.lsl), I r.lv, .d (tests r.lte), .d (ints r.rg.nodes), .d (AM.edges r.rg.edges), .d (slots r.rsl), I r.rv, .d (tests r.rte),
 .d (ints r.k.nodes), .d (ints r.k.edges), .d (ints r.i.nodes), .d (ints r.i.edges), B r.inj, I r.c.kind, .d (conds r.c.kids), .d (ints r.c.m.nodes), .d (ints r.c.m.edges), .d (ints r.c.g.nodes), .d (AM.edges r.c.g.edges), .d (slots r.c.sl), I r.c.vars, .d (tests r.c.te)]
abbrev Ru.av (r : Ru) : AV := .agg r.row
structure Ru.Fit (r : Ru) : Prop where
 lg : r.lg.Fit
 rg : r.rg.Fit
 k : r.k.Fit
 i : r.i.Fit
 ls : r.lsl.length ≤ bigN
 lt : r.lte.length ≤ bigN
 rs : r.rsl.length ≤ bigN
 rt : r.rte.length ≤ bigN
def Ru.sp (r : Ru) : Sp := ⟨r.lg, r.rg, r.k, r.i⟩
end Go.AM
namespace Go.AM
open Go Go.Proofs
end Go.AM
namespace Go.AM
open Go Go.Proofs
def rowsB (bs : List Bool) : List (List AV) := bs.map fun b => [AV.d (.raw (.bool b))]
theorem rowsB_eq (bs : List Bool) : rowsB bs = rowsD (bs.map fun b => [D.raw (.bool b)]) := by simp [rowsB, rowsD]
@[simp] theorem set_rB (bs : List Bool) (i : Nat) (v : Bool) : (rowsB bs).set i [AV.d (.raw (.bool v))] = rowsB (bs.set i v) := by simp [rowsB, List.map_set]
@[simp] theorem rowsB_length (bs : List Bool) : (rowsB bs).length = bs.length := by simp [rowsB]
@[simp high] theorem rowsB_get {bs : List Bool} {i : Nat} (h : i < bs.length) : (rowsB bs)[i]? = some [AV.d (.raw (.bool bs[i]))] := by simp [rowsB, h]
@[simp] theorem rowsTo_B {p q : Nat → Prop} {fz : Option (Nat × Nat × List (List D))} (bs : List Bool) : RowsTo p q fz (rowsB bs) (rowsB bs) := by rw [rowsB_eq]; simp
end Go.AM
namespace Go.AM
open Go
end Go.AM
namespace Go.AM
open Go Go.Proofs
end Go.AM
namespace Go.AM
open Go Go.Proofs
def pickN (ns : List Int) (js : List Int) (i : Nat) : List Int := (js.take i).map fun j => ns.getD j.toNat 0
@[simp] theorem pickN_len (l h : List Int) (i : Nat) : (pickN l h i).length = min i h.length := by simp [pickN]
def pickE (es : List E) (ns js : List Int) (i : Nat) : List E := (js.take i).map fun j => ⟨(es.getD j.toNat default).ty, indexI ns (es.getD j.toNat default).fr, indexI ns (es.getD j.toNat default).to⟩
@[simp] theorem pickE_len (l : List E) (ns h : List Int) (i : Nat) : (pickE l ns h i).length = min i h.length := by simp [pickE]
end Go.AM
namespace Go.AM
open Go Go.Proofs
end Go.AM
namespace Go.AM
open Go Go.Proofs
def rkK (ns : List Int) (bit : Nat → Bool) : Nat → List Int
 | 0 => []
 | i + 1 => if bit i = true then rkK ns bit i ++ [((chN ns bit i).1.length : Int)] else rkK ns bit i ++ [0]
def rkR (ns : List Int) (bit : Nat → Bool) (n i : Nat) : List Int := rkK ns bit i ++ List.replicate (n - i) 0
theorem rkK_len (ns : List Int) (bit : Nat → Bool) : ∀ i, (rkK ns bit i).length = i
 | 0 => rfl
 | i + 1 => by
  simp only [rkK]
  split <;> simp [rkK_len ns bit i]
@[simp] theorem rkR_len (ns : List Int) (bit : Nat → Bool) {n i : Nat} (h : i ≤ n) : (rkR ns bit n i).length = n := by simp [rkR, rkK_len]; omega
end Go.AM
namespace Go.AM
open Go
end Go.AM
namespace Go.AM
open Go
end Go.AM
namespace Go.AM
open Go Go.Proofs
end Go.AM
namespace Go.AM
open Go
def sameAt (a b : List Int) (i k : Nat) : Bool := decide (a.getD i 0 = a.getD k 0) == decide (b.getD i 0 = b.getD k 0)
end Go.AM
namespace Go.AM
open Go Go.Proofs
def mrgK (l : List Int) (lo hi : Int) (i : Nat) : List Int := (l.take i).map fun k => if k = hi then lo else k
@[simp] theorem mrgK_len (l : List Int) (lo hi : Int) (i : Nat) : (mrgK l lo hi i).length = min i l.length := by simp [mrgK]
def preK (l : List Int) (i : Nat) : List Int := l.take i
@[simp] theorem preK_len (l : List Int) (i : Nat) : (preK l i).length = min i l.length := by simp [preK]
end Go.AM
namespace Go.AM
open Go Go.Proofs
end Go.AM
namespace Go.AM
open Go Go.Proofs
end Go.AM
namespace Go.AM
open Go Go.Proofs
theorem Emb.fit {a b : Gr} {m : Mo} (h : Emb a b m) : m.Fit ∧ a.Fit ∧ b.Fit := by
 have v := h.vm
 have h1 := (validG_types v.va).1
 have h2 := (validG_types v.vb).1
 have h3 := v.ln
 have h4 := v.le
 exact ⟨⟨by omega, by omega⟩, ⟨by omega, by omega⟩, ⟨by omega, by omega⟩⟩
end Go.AM
namespace Go.Proofs
open Go.Shelf
end Go.Proofs
namespace Go.AM
open Go Go.Proofs Go.RowKit Go.Lib
end Go.AM
namespace Go.AM
open Go Go.Proofs
end Go.AM
namespace Go.AM
open Go Go.Proofs
end Go.AM
namespace Go.AM
open Go Go.Proofs
end Go.AM
namespace Go.AM
open Go Go.Proofs
end Go.AM
namespace Go.AM
open Go Go.Proofs
theorem SpOk.fit {s : Sp} (h : SpOk s) : s.l.Fit ∧ s.r.Fit ∧ s.k.Fit ∧ s.i.Fit := ⟨h.k.emb.fit.2.2, h.i.fit.2.2, h.k.emb.fit.1, h.i.fit.1⟩
end Go.AM
namespace Go.AM
open Go Go.Proofs
end Go.AM
namespace Go.AM
open Go Go.Proofs
end Go.AM
namespace Go.AM
open Go Go.Proofs
end Go.AM
namespace Go.AM
open Go Go.Proofs
end Go.AM
namespace Go.AM
open Go Go.Proofs
structure Ru.Big (r : Ru) : Prop where
 k : r.k.nodes.length ≤ bigN ∧ r.k.edges.length ≤ bigN
 i : r.i.nodes.length ≤ bigN ∧ r.i.edges.length ≤ bigN
 ls : r.lsl.length ≤ bigN
 lt : r.lte.length ≤ bigN
 rs : r.rsl.length ≤ bigN
 rt : r.rte.length ≤ bigN
 c : r.c.Big
end Go.AM
namespace Go.AM
open Go Go.Proofs
def backL (l : List Int) (n : Nat) : List Int := (List.range n).map fun (k : Nat) => indexI l (k : Int)
end Go.AM
