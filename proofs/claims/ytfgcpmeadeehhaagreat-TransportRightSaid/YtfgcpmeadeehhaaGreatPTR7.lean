/-
  Parts of the proof, as merged from many texts: a machine over data, what the functions compute, plain laws.
-/
import Derived.Test.YtfgcpmeadeehhaaGreatPTR6
set_option linter.unusedSimpArgs false
set_option linter.unusedVariables false
namespace Go.AM
open Go
def ascAt (l : List Int) (n : Int) (i : Nat) : Int := if l.getD i 0 < 0 ∨ n ≤ l.getD i 0 then 6 else if 0 < i ∧ l.getD i 0 ≤ l.getD (i - 1) 0 then 12 else 0
def ascE (l : List Int) (n : Int) : Int := firstE (ascAt l n) l.length
def dangAt (g : Gr) (p : Mo) (i : Nat) : Int := if (g.edges.getD (p.edges.getD i 0).toNat default).fr ∈ p.nodes ∧ (g.edges.getD (p.edges.getD i 0).toNat default).to ∈ p.nodes then 0 else 14
def rightP (g : Gr) (p : Mo) : Int :=
  if ascE p.nodes g.nodes.length ≠ 0 then ascE p.nodes g.nodes.length else if ascE p.edges g.edges.length ≠ 0 then ascE p.edges g.edges.length else firstE (dangAt g p) p.edges.length
def validP (g : Gr) (p : Mo) : Int := if validG g ≠ 0 then validG g else rightP g p
theorem asc_lt {l : List Int} {n : Int} (h : ascE l n = 0) : ∀ j i, i < j → j < l.length → l.getD i 0 < l.getD j 0
  | 0, i, hi, _ => absurd hi (Nat.not_lt_zero _)
  | j + 1, i, hi, hj => by
    have h1 := firstE_all _ h (j + 1) hj
    unfold ascAt at h1
    split at h1
    · cases h1
    · split at h1
      · cases h1
      · rename_i h3
        have h4 : l.getD j 0 < l.getD (j + 1) 0 := by
          have : j + 1 - 1 = j := rfl
          rw [this] at h3
          omega
        by_cases e : i = j
        · subst e; exact h4
        · have := asc_lt h j i (by omega) (by omega)
          omega
theorem asc_rng {l : List Int} {n : Int} (h : ascE l n = 0) : ∀ x ∈ l, 0 ≤ x ∧ x < n := fun x hx => by
  obtain ⟨i, hi, rfl⟩ := mem_getD hx
  have h1 := firstE_all _ h i hi
  unfold ascAt at h1
  split at h1
  · cases h1
  · omega
theorem asc_of {l : List Int} {n : Int} (h1 : ∀ x ∈ l, 0 ≤ x ∧ x < n) (h2 : ∀ j i, i < j → j < l.length → l.getD i 0 < l.getD j 0) : ascE l n = 0 := firstE_zero _ fun i hi => by
  have r := h1 _ (getD_mem (d := 0) hi)
  unfold ascAt
  rw [if_neg (by omega), if_neg]
  rintro ⟨h3, h4⟩
  have := h2 i (i - 1) (by omega) hi
  omega
structure VP (g : Gr) (p : Mo) : Prop where
  va : validG g = 0
  n : ∀ x ∈ p.nodes, 0 ≤ x ∧ x < g.nodes.length
  e : ∀ x ∈ p.edges, 0 ≤ x ∧ x < g.edges.length
  sn : ∀ j i, i < j → j < p.nodes.length → p.nodes.getD i 0 < p.nodes.getD j 0
  se : ∀ j i, i < j → j < p.edges.length → p.edges.getD i 0 < p.edges.getD j 0
  c : ∀ x ∈ p.edges, (g.edges.getD x.toNat default).fr ∈ p.nodes ∧ (g.edges.getD x.toNat default).to ∈ p.nodes
theorem VP.of {g : Gr} {p : Mo} (h : validP g p = 0) : VP g p := by
  unfold validP at h
  split at h
  · contradiction
  · rename_i h1
    unfold rightP at h
    split at h
    · contradiction
    · rename_i h2
      split at h
      · contradiction
      · rename_i h3
        have h2' := Decidable.not_not.1 h2
        have h3' := Decidable.not_not.1 h3
        refine ⟨Decidable.not_not.1 h1, asc_rng h2', asc_rng h3', asc_lt h2', asc_lt h3', fun x hx => ?_⟩
        obtain ⟨i, hi, rfl⟩ := mem_getD hx
        have h4 := firstE_all _ h i hi
        unfold dangAt at h4
        split at h4
        · assumption
        · cases h4
theorem VP.v {g : Gr} {p : Mo} (h : VP g p) : validP g p = 0 := by
  unfold validP rightP
  rw [if_neg (by simp [h.va]), if_neg (by simp [asc_of h.n h.sn]), if_neg (by simp [asc_of h.e h.se])]
  refine firstE_zero _ fun i hi => ?_
  unfold dangAt
  rw [if_pos (h.c _ (getD_mem (d := 0) hi))]
theorem nodup_of_lt {l : List Int} (h : ∀ j i, i < j → j < l.length → l.getD i 0 < l.getD j 0) : l.Nodup := by
  rw [nodup_getD]
  intro i j hij hj e
  have := h j i hij hj
  omega
theorem len_of {l : List Int} {n : Nat} (h : l.Nodup) (hr : ∀ x ∈ l, 0 ≤ x ∧ x < n) : l.length ≤ n := by
  have := nodup_le l (iota n) h fun x hx => by
    have := hr x hx
    simp only [iota, List.mem_map, List.mem_range]
    exact ⟨x.toNat, by omega, by omega⟩
  simpa [iota] using this
theorem VP.len {g : Gr} {p : Mo} (h : VP g p) : p.nodes.length ≤ g.nodes.length ∧ p.edges.length ≤ g.edges.length := ⟨len_of (nodup_of_lt h.sn) h.n, len_of (nodup_of_lt h.se) h.e⟩
def exE1 (g : Gr) (p : Mo) (k : Int) : E := ⟨(g.edges.getD k.toNat default).ty, indexI p.nodes (g.edges.getD k.toNat default).fr, indexI p.nodes (g.edges.getD k.toNat default).to⟩
def exG (g : Gr) (p : Mo) : Gr := ⟨p.nodes.map fun k => g.nodes.getD k.toNat 0, p.edges.map (exE1 g p)⟩
theorem indexI_in {l : List Int} {x : Int} (h : x ∈ l) : 0 ≤ indexI l x ∧ indexI l x < l.length ∧ l.getD (indexI l x).toNat 0 = x := by
  rcases indexI_spec l x with ⟨_, hn⟩ | ⟨k, h2, h3, h4⟩
  · exact absurd h hn
  · rw [h2]; exact ⟨by omega, by omega, h4⟩
theorem indexI_gd {l : List Int} (hl : l.Nodup) {i : Nat} (h : i < l.length) : indexI l (l.getD i 0) = i := by
  obtain ⟨h1, h2, h3⟩ := indexI_in (getD_mem (d := 0) h)
  have := getD_inj hl (show (indexI l (l.getD i 0)).toNat < l.length by omega) h h3
  omega
theorem VP.emb {g : Gr} {p : Mo} (h : VP g p) : Emb (exG g p) g p := by
  have hl := h.len
  obtain ⟨hs, ht, he⟩ := validG_types h.va
  have hv : validG (exG g p) = 0 := by
    refine validG_of (by simp only [exG, List.length_map]; omega) (fun n hn => ?_) fun e hx => ?_
    · simp only [exG, List.mem_map] at hn
      obtain ⟨k, hk, rfl⟩ := hn
      have := h.n k hk
      exact ht _ (getD_mem (by omega))
    · simp only [exG, List.mem_map] at hx
      obtain ⟨k, hk, rfl⟩ := hx
      have h1 := h.e k hk
      have h2 := h.c k hk
      have h3 := (fitsB_iff _ _).1 (he _ (getD_mem (d := default) (show k.toNat < g.edges.length by omega)))
      have i1 := indexI_in h2.1
      have i2 := indexI_in h2.2
      rw [fitsB_iff]
      simp only [exE1, exG, List.length_map]
      exact ⟨h3.1, ⟨i1.1, i1.2.1⟩, ⟨i2.1, i2.2.1⟩⟩
  refine ⟨validM_of ⟨hv, h.va, by simp [exG], by simp [exG], h.n, h.e, fun i hi => ?_, fun i hi => ?_⟩, nodup_of_lt h.sn, nodup_of_lt h.se⟩
  · have hi' : i < p.nodes.length := by simpa [exG] using hi
    simp [exG, hi']
  · have hi' : i < p.edges.length := by simpa [exG] using hi
    have e1 : (exG g p).edges.getD i default = exE1 g p (p.edges.getD i 0) := by simp [exG, hi']
    have h2 := h.c _ (getD_mem (d := 0) hi')
    rw [e1]
    simp only [exE1]
    rw [(indexI_in h2.1).2.2, (indexI_in h2.2).2.2]
def liftM (q h : Mo) : Mo := ⟨h.nodes.map (indexI q.nodes), h.edges.map (indexI q.edges)⟩
theorem mapI_getD {f : Int → Int} {l : List Int} {i : Nat} (h : i < l.length) : (l.map f).getD i 0 = f (l.getD i 0) := by simp [h]
theorem lift_emb {a c y : Gr} {q h : Mo} (hq : Emb c y q) (hh : Emb a y h) (hn : ∀ x ∈ h.nodes, x ∈ q.nodes) (he : ∀ x ∈ h.edges, x ∈ q.edges) : Emb a c (liftM q h) := by
  have v := hq.vm
  have w := hh.vm
  have inj : ∀ (l m : List Int), m.Nodup → (∀ x ∈ m, x ∈ l) → (m.map (indexI l)).Nodup := fun l m hm hs => by
    rw [nodup_getD]
    intro i j hij hj
    rw [List.length_map] at hj
    rw [mapI_getD (by omega), mapI_getD hj]
    intro e
    have i1 := indexI_in (hs _ (getD_mem (d := 0) (show i < m.length by omega)))
    have i2 := indexI_in (hs _ (getD_mem (d := 0) hj))
    have e2 : m.getD i 0 = m.getD j 0 := by rw [← i1.2.2, ← i2.2.2, e]
    have := getD_inj hm (by omega) hj e2
    omega
  refine ⟨validM_of ⟨w.va, v.va, by simp [liftM, w.ln], by simp [liftM, w.le], fun x hx => ?_, fun x hx => ?_, fun i hi => ?_, fun i hi => ?_⟩, inj _ _ hh.n hn, inj _ _ hh.e he⟩
  · obtain ⟨k, hk, rfl⟩ := List.mem_map.1 hx
    have := indexI_in (hn k hk)
    rw [v.ln] at this
    exact ⟨this.1, this.2.1⟩
  · obtain ⟨k, hk, rfl⟩ := List.mem_map.1 hx
    have := indexI_in (he k hk)
    rw [v.le] at this
    exact ⟨this.1, this.2.1⟩
  · have hi' : i < h.nodes.length := by rw [w.ln]; exact hi
    have i1 := indexI_in (hn _ (getD_mem (d := 0) hi'))
    simp only [liftM]
    rw [mapI_getD hi', ← w.nt i hi]
    have := v.nt (indexI q.nodes (h.nodes.getD i 0)).toNat (by rw [← v.ln]; omega)
    rw [← this, i1.2.2]
  · have hi' : i < h.edges.length := by rw [w.le]; exact hi
    have i1 := indexI_in (he _ (getD_mem (d := 0) hi'))
    have e1 : (liftM q h).edges.getD i 0 = indexI q.edges (h.edges.getD i 0) := mapI_getD hi'
    have hx := validG_edges w.va (a.edges.getD i default) (getD_mem hi)
    have e2 : (liftM q h).nodes.getD (a.edges.getD i default).fr.toNat 0 = indexI q.nodes (h.nodes.getD (a.edges.getD i default).fr.toNat 0) := mapI_getD (by rw [w.ln]; omega)
    have e3 : (liftM q h).nodes.getD (a.edges.getD i default).to.toNat 0 = indexI q.nodes (h.nodes.getD (a.edges.getD i default).to.toNat 0) := mapI_getD (by rw [w.ln]; omega)
    rw [e1, e2, e3]
    have hk : (indexI q.edges (h.edges.getD i 0)).toNat < c.edges.length := by rw [← v.le]; omega
    have t1 := v.et _ hk
    rw [i1.2.2, w.et i hi] at t1
    have hy := validG_edges v.va (c.edges.getD (indexI q.edges (h.edges.getD i 0)).toNat default) (getD_mem hk)
    generalize c.edges.getD (indexI q.edges (h.edges.getD i 0)).toNat default = ce at *
    simp only [E.mk.injEq] at t1
    have j1 : indexI q.nodes (h.nodes.getD (a.edges.getD i default).fr.toNat 0) = ce.fr := by
      rw [t1.2.1, indexI_gd hq.n (by rw [v.ln]; omega)]; omega
    have j2 : indexI q.nodes (h.nodes.getD (a.edges.getD i default).to.toNat 0) = ce.to := by
      rw [t1.2.2, indexI_gd hq.n (by rw [v.ln]; omega)]; omega
    rw [j1, j2, t1.1]
def ascL (l : List Int) (n : Nat) : List Int := ((List.range n).filter fun (k : Nat) => decide ((k : Int) ∈ l)).map fun (k : Nat) => (k : Int)
theorem ascL_mem {l : List Int} {n : Nat} {x : Int} : x ∈ ascL l n ↔ x ∈ l ∧ 0 ≤ x ∧ x < n := by
  simp only [ascL, List.mem_map, List.mem_filter, List.mem_range, decide_eq_true_eq]
  constructor
  · rintro ⟨k, ⟨h1, h2⟩, rfl⟩; exact ⟨h2, by omega, by omega⟩
  · rintro ⟨h1, h2, h3⟩; exact ⟨x.toNat, ⟨by omega, by rwa [show ((x.toNat : Nat) : Int) = x by omega]⟩, by omega⟩
theorem ascL_pw (l : List Int) (n : Nat) : (ascL l n).Pairwise (· < ·) := by
  unfold ascL
  rw [List.pairwise_map]
  refine List.Pairwise.filter _ (List.Pairwise.imp (R := (· < ·)) (fun h => by omega) List.pairwise_lt_range)
theorem pw_getD {l : List Int} : l.Pairwise (· < ·) → ∀ j i, i < j → j < l.length → l.getD i 0 < l.getD j 0 := fun h j i hij hj => by
  have := List.pairwise_iff_getElem.1 h i j (by omega) hj hij
  simpa [List.getD_eq_getElem?_getD, hj, show i < l.length by omega] using this
theorem pw_ext : ∀ {l m : List Int}, l.Pairwise (· < ·) → m.Pairwise (· < ·) → (∀ x, x ∈ l ↔ x ∈ m) → l = m
  | [], [], _, _, _ => rfl
  | [], y :: m, _, _, h => by have := (h y).2 (by simp); simp at this
  | x :: l, [], _, _, h => by have := (h x).1 (by simp); simp at this
  | x :: l, y :: m, hl, hm, h => by
    rw [List.pairwise_cons] at hl hm
    have h1 := (h x).1 (by simp)
    have h2 := (h y).2 (by simp)
    have e : x = y := by
      rcases List.mem_cons.1 h1 with h1 | h1
      · exact h1
      · rcases List.mem_cons.1 h2 with h2 | h2
        · exact h2.symm
        · have := hl.1 y h2
          have := hm.1 x h1
          omega
    subst e
    congr 1
    refine pw_ext hl.2 hm.2 fun z => ?_
    have := h z
    simp only [List.mem_cons] at this
    constructor
    · intro hz
      rcases this.1 (.inr hz) with e | e
      · subst e; have := hl.1 z hz; omega
      · exact e
    · intro hz
      rcases this.2 (.inr hz) with e | e
      · subst e; have := hm.1 z hz; omega
      · exact e
def imgP (y : Gr) (q : Mo) : Mo := ⟨ascL q.nodes y.nodes.length, ascL q.edges y.edges.length⟩
theorem imgP_vp {c y : Gr} {q : Mo} (hq : Emb c y q) : VP y (imgP y q) := by
  have v := hq.vm
  refine ⟨v.vb, fun x hx => (ascL_mem.1 hx).2, fun x hx => (ascL_mem.1 hx).2, pw_getD (ascL_pw _ _), pw_getD (ascL_pw _ _), fun x hx => ?_⟩
  obtain ⟨h1, h2, h3⟩ := ascL_mem.1 hx
  obtain ⟨i, hi, rfl⟩ := mem_getD h1
  have hi' : i < c.edges.length := by rw [← v.le]; exact hi
  have he := validG_edges v.va (c.edges.getD i default) (getD_mem hi')
  have m1 : q.nodes.getD (c.edges.getD i default).fr.toNat 0 ∈ q.nodes := getD_mem (by rw [v.ln]; omega)
  have m2 : q.nodes.getD (c.edges.getD i default).to.toNat 0 ∈ q.nodes := getD_mem (by rw [v.ln]; omega)
  rw [v.et i hi']
  exact ⟨ascL_mem.2 ⟨m1, v.n _ m1⟩, ascL_mem.2 ⟨m2, v.n _ m2⟩⟩
theorem imgP_sub {y : Gr} {q : Mo} : (∀ x ∈ (imgP y q).nodes, x ∈ q.nodes) ∧ ∀ x ∈ (imgP y q).edges, x ∈ q.edges := ⟨fun x hx => (ascL_mem.1 hx).1, fun x hx => (ascL_mem.1 hx).1⟩
def goneI (images keep : List Int) : List Int := ((List.range images.length).filter fun (i : Nat) => decide ((i : Int) ∉ keep)).map fun (i : Nat) => images.getD i 0
def restI (n : Nat) (images keep : List Int) : List Int := ((List.range n).filter fun (k : Nat) => decide ((k : Int) ∉ goneI images keep)).map fun (k : Nat) => (k : Int)
def dangL (g : Gr) (keep m : Mo) : Bool := (List.range g.edges.length).any fun (i : Nat) => decide ((i : Int) ∉ m.edges ∧ ((g.edges.getD i default).fr ∈ goneI m.nodes keep.nodes ∨ (g.edges.getD i default).to ∈ goneI m.nodes keep.nodes))
def cmpl (g : Gr) (keep m : Mo) : Mo := ⟨restI g.nodes.length m.nodes keep.nodes, restI g.edges.length m.edges keep.edges⟩
theorem goneI_mem {images keep : List Int} {x : Int} : x ∈ goneI images keep ↔ ∃ i : Nat, i < images.length ∧ (i : Int) ∉ keep ∧ images.getD i 0 = x := by
  simp only [goneI, List.mem_map, List.mem_filter, List.mem_range, decide_eq_true_eq]
  constructor
  · rintro ⟨i, ⟨h1, h2⟩, h3⟩; exact ⟨i, h1, h2, h3⟩
  · rintro ⟨i, h1, h2, h3⟩; exact ⟨i, ⟨h1, h2⟩, h3⟩
theorem restI_mem {n : Nat} {images keep : List Int} {x : Int} : x ∈ restI n images keep ↔ (0 ≤ x ∧ x < n) ∧ x ∉ goneI images keep := by
  simp only [restI, List.mem_map, List.mem_filter, List.mem_range, decide_eq_true_eq]
  constructor
  · rintro ⟨k, ⟨h1, h2⟩, rfl⟩; exact ⟨⟨by omega, by omega⟩, h2⟩
  · rintro ⟨⟨h1, h2⟩, h3⟩; exact ⟨x.toNat, ⟨by omega, by rwa [show ((x.toNat : Nat) : Int) = x by omega]⟩, by omega⟩
theorem restI_pw (n : Nat) (images keep : List Int) : (restI n images keep).Pairwise (· < ·) := by
  unfold restI
  rw [List.pairwise_map]
  refine List.Pairwise.filter _ (List.Pairwise.imp (R := (· < ·)) (fun h => by omega) List.pairwise_lt_range)
theorem kept_not_gone {images keep : List Int} (hn : images.Nodup) {i : Nat} (hi : i < images.length) (hk : (i : Int) ∈ keep) : images.getD i 0 ∉ goneI images keep := fun h => by
  obtain ⟨j, hj, hjk, e⟩ := goneI_mem.1 h
  have := getD_inj hn hj hi e
  subst this
  exact hjk hk
theorem cmpl_vp {l g : Gr} {keep m : Mo} (hm : Emb l g m) (hk : VP l keep) (hd : dangL g keep m = false) : VP g (cmpl g keep m) := by
  have v := hm.vm
  refine ⟨v.vb, fun x hx => (restI_mem.1 hx).1, fun x hx => (restI_mem.1 hx).1, pw_getD (restI_pw _ _ _), pw_getD (restI_pw _ _ _), fun x hx => ?_⟩
  obtain ⟨⟨h1, h2⟩, h3⟩ := restI_mem.1 hx
  have hxl : x.toNat < g.edges.length := by omega
  have he := validG_edges v.vb (g.edges.getD x.toNat default) (getD_mem hxl)
  have key : (g.edges.getD x.toNat default).fr ∉ goneI m.nodes keep.nodes ∧ (g.edges.getD x.toNat default).to ∉ goneI m.nodes keep.nodes := by
    by_cases hxm : x ∈ m.edges
    · obtain ⟨i, hi, rfl⟩ := mem_getD hxm
      have hi' : i < l.edges.length := by rw [← v.le]; exact hi
      have hik : (i : Int) ∈ keep.edges := Decidable.byContradiction fun hc => h3 (goneI_mem.2 ⟨i, hi, hc, rfl⟩)
      have hc := hk.c _ hik
      have hle := validG_edges v.va (l.edges.getD i default) (getD_mem hi')
      rw [Int.toNat_natCast] at hc
      rw [v.et i hi']
      refine ⟨kept_not_gone hm.n (by rw [v.ln]; omega) ?_, kept_not_gone hm.n (by rw [v.ln]; omega) ?_⟩
      · rw [show (((l.edges.getD i default).fr.toNat : Nat) : Int) = (l.edges.getD i default).fr by omega]; exact hc.1
      · rw [show (((l.edges.getD i default).to.toNat : Nat) : Int) = (l.edges.getD i default).to by omega]; exact hc.2
    · unfold dangL at hd
      rw [List.any_eq_false] at hd
      have := hd x.toNat (List.mem_range.2 hxl)
      simp only [decide_eq_true_eq, not_and, not_or] at this
      exact this (by rwa [show ((x.toNat : Nat) : Int) = x by omega])
  exact ⟨restI_mem.2 ⟨⟨he.1, he.2.1⟩, key.1⟩, restI_mem.2 ⟨⟨he.2.2.1, he.2.2.2⟩, key.2⟩⟩
end Go.AM
namespace Go.AM
open Go
variable {P : Program}
theorem EffV.val {o : Oper} {ρ : Operand → AV} {box box' : Nat → Option (List (List AV))} {tok tok' : Nat → Bool} {nt nt' : Nat} {v : AV} (h : EffV P o ρ box tok nt v box' tok' nt') : isVal o.op = true := by
  unfold EffV at h
  split at h
  · rename_i c ho
    split at h
    · rename_i f hf
      rw [ho]
      obtain ⟨cal, args, tys⟩ := c
      simp only at hf
      subst hf
      rfl
    · exact h.elim
  · exact h.elim
theorem EffV.spec {o : Oper} {ρ : Operand → AV} {box box' : Nat → Option (List (List AV))} {tok tok' : Nat → Bool} {nt nt' : Nat} {v : AV} (h : EffV P o ρ box tok nt v box' tok' nt') :
    ∃ x k i off rows, callPtr o.op = some x ∧ ρ x = .ptr k i off ∧ box' = upd box k (some rows) := by
  unfold EffV at h
  split at h
  · split at h
    · split at h
      · obtain ⟨x, k, i, off, rows, g1, g2, g3, g4, g5⟩ := h
        exact ⟨x, k, i, off, rows, g1, g2, g4⟩
      · exact h.elim
    · exact h.elim
  · exact h.elim
theorem Eff.up {wr : Bool} {base : Nat} {o : Oper} {ρ : Operand → AV} {box box' : Nat → Option (List (List AV))} {tok tok' : Nat → Bool} {nt nt' : Nat} {v : AV} (h : Eff P false base o ρ box tok nt v box' tok' nt') : Eff P wr base o ρ box tok nt v box' tok' nt' := by
  unfold Eff at h ⊢
  cases hc : cls o.op <;> simp only [hc] at h ⊢ <;> first | exact h | exact .inl (t_false h)
theorem Eff.down {wr : Bool} {base : Nat} {o : Oper} {ρ : Operand → AV} {box box' : Nat → Option (List (List AV))} {tok tok' : Nat → Bool} {nt nt' : Nat} {v : AV} (hv : isVal o.op = false) (h : Eff P wr base o ρ box tok nt v box' tok' nt') : Eff P false base o ρ box tok nt v box' tok' nt' := by
  unfold Eff at h ⊢
  cases hc : cls o.op <;> simp only [hc] at h ⊢ <;> first | exact h | skip
  rcases h with h | ⟨_, h⟩
  · exact .inl h
  · rw [h.val] at hv; cases hv
theorem Step.up {wr : Bool} {base : Nat} {o : Oper} {S S' : AState} (h : Step P false base o S S') : Step P wr base o S S' := by
  obtain ⟨v, b, t, n, h1, h2⟩ := h
  exact ⟨v, b, t, n, h1.up, h2⟩
def ptrOp3 (o : Op) : Option Operand := match ptrOp o with
  | some p => some p
  | none => callPtr o
def calm (x y : Oper) : Bool := match isVal x.op, isVal y.op with
  | true, true => false
  | true, false => decide (cls y.op = .n) || decide (cls y.op = .r)
  | false, true => decide (cls x.op = .n) || decide (cls x.op = .r)
  | false, false => !clash x y || isPtr x.op && isPtr y.op
theorem load_ptr {o : Oper} (h : cls o.op = .r) : ∃ p, ptrOp o.op = some p := by
  cases hop : o.op <;> rw [hop] at h <;> simp only [cls, reduceCtorEq] at h
  · exact ⟨_, rfl⟩
  · split at h <;> first | (rename_i e; cases e; done) | (cases h; done) | simp_all
theorem val_cls {o : Op} (h : isVal o = true) : cls o = .t ∧ ptrOp o = none := by
  unfold isVal at h
  split at h
  · exact ⟨rfl, rfl⟩
  · cases h
theorem calm_swap {base : Nat} {x y : Oper} {ρ : Operand → AV} {b0 b1 b2 : Nat → Option (List (List AV))} {t0 t1 t2 : Nat → Bool} {n0 n1 n2 : Nat} {vx vy : AV} (hc : calm x y = true)
    (hk : ∀ p q, ptrOp3 x.op = some p → ptrOp3 y.op = some q → (cls x.op ≠ .r ∨ cls y.op ≠ .r) → ∀ k i off k' i' off', ρ p = .ptr k i off → ρ q = .ptr k' i' off' → k ≠ k')
    (hx : Eff P true base x ρ b0 t0 n0 vx b1 t1 n1) (hy : Eff P true base y ρ b1 t1 n1 vy b2 t2 n2) : ∃ c t n, Eff P true base y ρ b0 t0 n0 vy c t n ∧ Eff P true base x ρ c t n vx b2 t2 n2 := by
  unfold calm at hc
  cases vx' : isVal x.op <;> cases vy' : isVal y.op <;> simp only [vx', vy'] at hc
  · have dx := hx.down vx'
    have dy := hy.down vy'
    cases hcl : clash x y with
    | false =>
      obtain ⟨c, t, n, h1, h2⟩ := eff_swap hcl dx dy
      exact ⟨c, t, n, h1.up, h2.up⟩
    | true =>
      rw [hcl] at hc
      simp only [Bool.not_true, Bool.false_or, Bool.and_eq_true] at hc
      obtain ⟨p, hp⟩ := Option.isSome_iff_exists.1 hc.1
      obtain ⟨q, hq⟩ := Option.isSome_iff_exists.1 hc.2
      have hp3 : ptrOp3 x.op = some p := by unfold ptrOp3; rw [hp]
      have hq3 : ptrOp3 y.op = some q := by unfold ptrOp3; rw [hq]
      have hr : cls x.op ≠ .r ∨ cls y.op ≠ .r := by
        by_cases e1 : cls x.op = .r
        · by_cases e2 : cls y.op = .r
          · simp [clash, e1, e2] at hcl
          · exact .inr e2
        · exact .inl e1
      obtain ⟨c, t, n, h1, h2⟩ := eff_far hp hq (hk p q hp3 hq3 hr) dx dy
      exact ⟨c, t, n, h1.up, h2.up⟩
  · -- the call comes second
    obtain ⟨cy, py⟩ := val_cls vy'
    unfold Eff at hx hy ⊢
    simp only [Bool.or_eq_true, decide_eq_true_eq] at hc
    rcases hc with hc | hc <;> simp only [hc, cy] at hx hy ⊢
    · obtain ⟨e, rfl, rfl, rfl⟩ := hx
      exact ⟨_, _, _, hy, e, rfl, rfl, rfl⟩
    · obtain ⟨e, rfl, rfl, rfl⟩ := hx
      obtain ⟨p, hp⟩ := load_ptr hc
      refine ⟨_, _, _, hy, ?_, rfl, rfl, rfl⟩
      rcases hy with ⟨_, rfl⟩ | ⟨_, hv⟩
      · exact e
      · obtain ⟨z, k, i, off, rows, g1, g2, rfl⟩ := hv.spec
        refine effR_ptr hp hc e fun k1 i1 off1 h1 => ?_
        exact hk p z (by unfold ptrOp3; rw [hp]) (by unfold ptrOp3; rw [py]; exact g1) (.inr (by rw [cy]; decide)) _ _ _ _ _ _ h1 g2
  · -- the call comes first
    obtain ⟨cx, px⟩ := val_cls vx'
    unfold Eff at hx hy ⊢
    simp only [Bool.or_eq_true, decide_eq_true_eq] at hc
    rcases hc with hc | hc <;> simp only [hc, cx] at hx hy ⊢
    · obtain ⟨e, rfl, rfl, rfl⟩ := hy
      exact ⟨_, _, _, ⟨e, rfl, rfl, rfl⟩, hx⟩
    · obtain ⟨e, rfl, rfl, rfl⟩ := hy
      obtain ⟨q, hq⟩ := load_ptr hc
      refine ⟨_, _, _, ⟨?_, rfl, rfl, rfl⟩, hx⟩
      rcases hx with ⟨_, rfl⟩ | ⟨_, hv⟩
      · exact e
      · obtain ⟨z, k, i, off, rows, g1, g2, rfl⟩ := hv.spec
        refine effR_back hq hc (fun k1 i1 off1 h1 => ?_) e
        exact Ne.symm (hk z q (by unfold ptrOp3; rw [px]; exact g1) (by unfold ptrOp3; rw [hq]) (.inl (by rw [cx]; decide)) _ _ _ _ _ _ g2 h1)
  · cases hc
def regOk3 (ops : Array Oper) : Bool :=
  let an := ancs ops.toList []
  dstUniq ops && (List.range ops.size).all fun i => (match ops[i]? with | some o => (direct o).all fun j => decide (j < i) | none => true) &&
    (List.range i).all fun j => (an.getD i 0).testBit j || (match ops[j]?, ops[i]? with
      | some x, some y => Oper.apart ops x y && calm x y
      | _, _ => false)
def unPairs (ops : Array Oper) : List (Operand × Operand) :=
  let an := ancs ops.toList []
  (List.range ops.size).flatMap fun i => (List.range i).filterMap fun j => if (an.getD i 0).testBit j then none else match ops[j]?, ops[i]? with
    | some x, some y => match ptrOp3 x.op, ptrOp3 y.op with
      | some p, some q => if cls x.op = .r ∧ cls y.op = .r then none else some (p, q)
      | _, _ => none
    | _, _ => none
def FarP (S : AState) : List (Operand × Operand) → Prop
  | [] => True
  | (p, q) :: r => NK (S.ev p) (S.ev q) ∧ FarP S r
theorem FarP.at {S : AState} {p q : Operand} : ∀ {L : List (Operand × Operand)}, FarP S L → (p, q) ∈ L → NK (S.ev p) (S.ev q)
  | (a, b) :: r, h, hm => by
    rcases List.mem_cons.1 hm with e | hm
    · cases e; exact h.1
    · exact FarP.at h.2 hm
theorem unPairs_mem {ops : Array Oper} {i j : Nat} {x y : Oper} {p q : Operand} (hx : ops[j]? = some x) (hy : ops[i]? = some y) (hij : j < i) (hb : ((ancs ops.toList []).getD i 0).testBit j = false) (hp : ptrOp3 x.op = some p) (hq : ptrOp3 y.op = some q) (hr : cls x.op ≠ .r ∨ cls y.op ≠ .r) : (p, q) ∈ unPairs ops := by
  have his : i < ops.size := (Array.getElem?_eq_some_iff.1 hy).1
  unfold unPairs
  simp only [List.mem_flatMap, List.mem_range, List.mem_filterMap]
  refine ⟨i, his, j, hij, ?_⟩
  have hnr : ¬ (cls x.op = .r ∧ cls y.op = .r) := fun h => by rcases hr with hr | hr; exact hr h.1; exact hr h.2
  rw [hb, hx, hy]
  simp [hp, hq, hnr]
theorem any_sound3 {n nb base : Nat} {ops : Array Oper} {Q : Exit → Act → World → Prop} {Sf : AState} {G0 : Gh} {w0 : World} {b0 : Nat → Option (List (List AV))} (hreg : regOk3 ops = true) (hal : allocOk ops = true) (hdst : dstOk n ops = true) (hnb : base + n ≤ nb)
    (hfar : FarP Sf (unPairs ops))
    (hQ : ∀ a' w' G', RelS n nb G' Sf a' w' → LeK base G0 w0 b0 G' w' Sf.box → Q .normal a' w') (fuel : Nat) (listed : Array Bool) (rem : List Nat) (S : AState) (a : Act) (w : World) (G : Gh) (hrem : rem = List.range ops.size) (hside : Side ops S)
    (h1 : listed.size = ops.size) (h2 : rem = (List.range ops.size).filter (fun i => !listed.getD i true)) (h3 : rem.length = fuel) (h4 : ∀ i o, ops[i]? = some o → listed.getD i false = true → ∀ j ∈ direct o, listed.getD j false = true)
    (h5 : IRun P true base ops rem S Sf) (h6 : RelS n nb G S a w) (h7 : ∀ i ∈ rem, ∀ o, ops[i]? = some o → Pend P base o G S.box) (h8 : LeK base G0 w0 b0 G w S.box) : wpAny P .any ops Q fuel listed a w := by
  unfold regOk3 at hreg
  simp only [Bool.and_eq_true] at hreg
  obtain ⟨hu, hreg⟩ := hreg
  have key : ∀ (i : Nat) (o : Oper), ops[i]? = some o → (∀ j ∈ direct o, j < i) ∧ ∀ j x, ops[j]? = some x → j < i → ((ancs ops.toList []).getD i 0).testBit j = true ∨ x.apart ops o = true ∧ calm x o = true := by
    intro i o ho
    have his : i < ops.size := (Array.getElem?_eq_some_iff.1 ho).1
    have hall := List.all_eq_true.1 hreg i (by simpa using his)
    rw [ho] at hall
    simp only [Bool.and_eq_true] at hall
    refine ⟨fun j hj => by simpa using List.all_eq_true.1 hall.1 j hj, fun j x hx hj => ?_⟩
    have h2 := List.all_eq_true.1 hall.2 j (by simpa using hj)
    rw [hx] at h2
    simpa only [Bool.or_eq_true, Bool.and_eq_true] using h2
  have start : Ivs Sf S := by
    intro t
    by_cases hd : ∃ o ∈ ops.toList, o.dst = some t
    · obtain ⟨o, ho, hd⟩ := hd
      exact .inr (hside o ho t hd)
    · refine .inl (irun_keeps (fun j _ x hx hxd => hd ⟨x, by simpa using Array.mem_of_getElem? hx, hxd⟩) h5).symm
  refine any_sound' (wr := true) (fun i o ho => (key i o ho).1) (Iv := Ivs Sf) (fun i o S' S'' rest ho hni hst hrun hiv => ivs_step hu i o S' S'' rest ho hni hst hrun hiv) ?_ hal hdst hnb hQ fuel listed rem S a w G h1 h2 h3 h4 start h5 h6 h7 h8
  intro i j o x ho hx hj hb S' S1 S2 hiv g1 g2
  rcases (key i o ho).2 j x hx hj with h | ⟨h, h'⟩
  · rw [hb] at h; cases h
  · refine gstep_swap' h (fun {c0 c1 c2 s0 s1 s2 m0 m1 m2 vx vy} e1 e2 => ?_) g1 g2
    have back : ∀ (z : Operand) k i off, S'.ev z = .ptr k i off → Sf.ev z = .ptr k i off := by
      intro z k i off hz
      cases z with
      | tmp t =>
        rcases hiv t with e | e
        · exact e.symm.trans hz
        · have hz' : S'.tmps t = .ptr k i off := hz
          rw [hz'] at e
          exact e.elim
      | const c => exact hz
      | global c => exact hz
      | func c => exact hz
    refine calm_swap h' (fun p q hp hq hr k i1 off k' i2 off' hk hk' => ?_) e1 e2
    have hnk := hfar.at (unPairs_mem hx ho hj hb hp hq hr)
    rw [back p _ _ _ hk, back q _ _ _ hk'] at hnk
    exact hnk
def StopW (P : Program) (o : Oper) (fid : FuncId) (args : List AV) (S : AState) (K : AState → Prop) : Prop :=
  (∃ v tok' nt', RCall P fid args S.box S.tok S.nt v tok' nt' ∧ K ⟨putT S.tmps o.dst v, S.box, tok', nt'⟩) ∨
  ∃ x k i off rows v tok' nt', callPtr o.op = some x ∧ S.ev x = .ptr k i off ∧ S.box k ≠ none ∧ WCall P fid args k S.box S.tok S.nt v rows tok' nt' ∧ K ⟨putT S.tmps o.dst v, upd S.box k (some rows), tok', nt'⟩
def FOneW (P : Program) (cx : Cx) (o : Oper) (K : AState → Prop) (S : AState) : Prop := match callFn o S.ev with
  | some (fid, args) => StopW P o fid args S K
  | none => FOne P cx true o K S
def FOpsW (P : Program) (cx : Cx) (ops : Array Oper) : List Oper → (AState → Prop) → AState → Prop
  | [], K, S => K S
  | o :: r, K, S => match o.guard with
    | none => FOneW P cx o (FOpsW P cx ops r K) S
    | some (j, want) => match yieldA ops S j with
      | some (some b) => Gd b want (FOneW P cx o (FOpsW P cx ops r K)) (FSkip o.dst (FOpsW P cx ops r K)) S
      | some none => FSkip o.dst (FOpsW P cx ops r K) S
      | none => False
theorem fOpsW_true {cx : Cx} {ops : Array Oper} {K : AState → Prop} : ∀ (l : List Oper) (S : AState), FOpsW P cx ops l K S → ∃ S', ARun P true cx.base ops l S S' ∧ K S'
  | [], S, h => ⟨S, rfl, h⟩
  | o :: r, S, h => by
    have one : FOneW P cx o (FOpsW P cx ops r K) S → ∃ S1 S', Step P true cx.base o S S1 ∧ ARun P true cx.base ops r S1 S' ∧ K S' := by
      intro h1
      unfold FOneW at h1
      split at h1
      · rename_i fid args hc
        unfold callFn at hc
        split at hc
        · rename_i c ho
          split at hc
          · rename_i f hcal
            split at hc
            · rename_i fid' caps hf
              simp only [Option.some.injEq, Prod.mk.injEq] at hc
              obtain ⟨rfl, rfl⟩ := hc
              have hcl : cls o.op = .t := by
                rw [ho]
                obtain ⟨cal, args, tys⟩ := c
                simp only at hcal
                subst hcal
                rfl
              rcases h1 with ⟨v, tok', nt', hd, hk'⟩ | ⟨x, k, i, off, rows, v, tok', nt', g1, g2, g3, hw, hk'⟩
              · obtain ⟨S', h2, h3⟩ := fOpsW_true r _ hk'
                refine ⟨_, S', ⟨v, S.box, tok', nt', ?_, rfl⟩, h2, h3⟩
                unfold Eff
                rw [hcl]
                refine .inl ⟨.inr ?_, rfl⟩
                unfold EffC
                simp only [ho, hcal, hf]
                exact hd
              · obtain ⟨S', h2, h3⟩ := fOpsW_true r _ hk'
                refine ⟨_, S', ⟨v, upd S.box k (some rows), tok', nt', ?_, rfl⟩, h2, h3⟩
                unfold Eff
                rw [hcl]
                refine .inr ⟨rfl, ?_⟩
                unfold EffV
                rw [ho] at g1 ⊢
                simp only [hcal, hf]
                exact ⟨x, k, i, off, rows, g1, g2, g3, rfl, hw⟩
            · cases hc
          · cases hc
        · cases hc
      · rename_i hc
        rcases fOne_cases h1 with ⟨_, S1, hs, hk⟩ | ⟨hdr, _⟩ | ⟨fid, args, hc', hk⟩
        · obtain ⟨S', h2, h3⟩ := fOpsW_true r S1 hk
          exact ⟨S1, S', hs.up, h2, h3⟩
        · cases hdr
        · rw [hc] at hc'; cases hc'
    unfold FOpsW at h
    unfold ARun
    split at h
    · rename_i hg
      obtain ⟨S1, S', h1, h2, h3⟩ := one h
      exact ⟨S', ⟨S1, by unfold GStep; rw [hg]; exact h1, h2⟩, h3⟩
    · rename_i j want hg
      split at h
      · rename_i b hy
        by_cases e : b = want
        · obtain ⟨S1, S', h1, h2, h3⟩ := one (h.1 e)
          exact ⟨S', ⟨S1, by unfold GStep; rw [hg]; simp only [hy, e, ↓reduceIte]; exact h1, h2⟩, h3⟩
        · obtain ⟨S', h2, h3⟩ := fOpsW_true r _ (h.2 (by cases b <;> cases want <;> simp_all))
          exact ⟨S', ⟨_, by unfold GStep; rw [hg]; simp only [hy, Option.some.injEq, e, ↓reduceIte], h2⟩, h3⟩
      · rename_i hy
        obtain ⟨S', h2, h3⟩ := fOpsW_true r _ h
        exact ⟨S', ⟨_, by unfold GStep; rw [hg]; simp only [hy, reduceCtorEq, ↓reduceIte], h2⟩, h3⟩
      · exact h.elim
def FRegW (P : Program) (cx : Cx) (ops : Array Oper) (K : AState → Prop) (S : AState) : Prop := match preF P cx.base ops.toList S.box with
  | some b => FOpsW P cx ops ops.toList K ⟨S.tmps, b, S.tok, S.nt⟩
  | none => False
theorem AL.region3 {cx : Cx} {nt0 : Nat} {K : Exit → AState → Prop} {r : List CI} {S : AState} {id : Nat} {ops : Array Oper} (hf : P.follows .mixedOrders = true) (hnb : cx.base + cx.n ≤ cx.nb) (hok : (allocOk ops && dstOk cx.n ops && regOk3 ops) = true) (hside : Side ops S) (L : List (Operand × Operand)) (hL : unPairs ops = L)
    (h : FRegW P cx ops (fun S' => FarP S' L ∧ AL P cx nt0 K r S') S) : AL P cx nt0 K (.c (.region id ops true) :: r) S := by
  simp only [AL]
  simp only [Bool.and_eq_true] at hok
  obtain ⟨⟨hal, hdst⟩, hreg⟩ := hok
  intro G0 w0 he hn G a w hr hl
  have hd := dstOk_spec hdst
  have hpre : PreB P cx.base ops.toList S.box fun b => ∃ S', ARun P true cx.base ops ops.toList { S with box := b } S' ∧ FarP S' L ∧ AL P cx nt0 K r S' := by
    unfold FRegW at h
    split at h
    · rename_i b hb
      exact preF_sound _ _ b hb (fOpsW_true _ _ h)
    · exact h.elim
  obtain ⟨b, hb, hr1, hp, hkeep⟩ := preB_sound hnb ops.toList S.box (S := S) hr (fun o ho d hod => hd o d (by simpa using ho) hod) (allocOk_nodup hal) hpre
  have hl1 : LeC cx G0 w0 G w { S with box := b } := ⟨hl.1, fun k hk hg => by
    rw [← hl.2 k hk hg]
    refine hkeep k fun hm => ?_
    obtain ⟨o, ho, he⟩ := List.mem_filterMap.1 hm
    split at he
    · rename_i T s h1 h2
      simp only [Option.some.injEq] at he
      subst he
      exact absurd hk (by simp)
    · cases he⟩
  obtain ⟨S', hrun, hfar, hK⟩ := hb
  refine wp_region_any hf ?_
  have hrd : RelS cx.n cx.nb G { S with box := b } a w.drew := hr1.drew
  have hld : LeC cx G0 w0 G w.drew { S with box := b } := hl1.step ⟨Le.drew, fun k _ hg => ⟨hg, rfl⟩⟩
  refine any_sound3 (n := cx.n) (nb := cx.nb) (base := cx.base) (Sf := S') (G0 := G) (w0 := w.drew) (b0 := b) hreg hal hdst hnb (by rw [hL]; exact hfar) (fun a' w' G' h1 h2 => ⟨S', G', hK, h1, hld.step h2⟩) ops.size (Array.replicate ops.size false) (List.range ops.size) { S with box := b } a w.drew G rfl hside (by simp) ?_ (by simp) ?_ (IRun.of_all hrun) hrd ?_ (LeK.refl _ _ _ _)
  · rw [List.filter_eq_self.2]
    intro i hi
    simp at hi
    simp [Array.getD, hi]
  · intro i o ho hlst
    have hi := (Array.getElem?_eq_some_iff.1 ho).1
    simp [Array.getD, hi] at hlst
  · intro i _ o ho
    exact hp o (by simpa using Array.mem_of_getElem? ho)
theorem StopW.of_r {o : Oper} {fid : FuncId} {args : List AV} {S : AState} {K : AState → Prop} {v : AV} {tok' : Nat → Bool} {nt' : Nat} (h : RCall P fid args S.box S.tok S.nt v tok' nt') (hk : K ⟨putT S.tmps o.dst v, S.box, tok', nt'⟩) : StopW P o fid args S K := .inl ⟨v, tok', nt', h, hk⟩
theorem StopW.of_d {o : Oper} {fid : FuncId} {args : List AV} {S : AState} {K : AState → Prop} {v : AV} {tok' : Nat → Bool} {nt' : Nat} (h : DCall P fid args S.tok S.nt v tok' nt') (hk : K ⟨putT S.tmps o.dst v, S.box, tok', nt'⟩) : StopW P o fid args S K := .of_r (h.r _) hk
attribute [simp] FRegW FOneW callFn FarP
@[simp] theorem FOpsW_nil {cx : Cx} {ops : Array Oper} {K : AState → Prop} {t : Nat → AV} {b : Nat → Option (List (List AV))} {k : Nat → Bool} {n : Nat} : FOpsW P cx ops [] K ⟨t, b, k, n⟩ = K ⟨t, b, k, n⟩ := by simp only [FOpsW]
@[simp] theorem FOpsW_cons {cx : Cx} {ops : Array Oper} {o : Oper} {r : List Oper} {K : AState → Prop} {t : Nat → AV} {b : Nat → Option (List (List AV))} {k : Nat → Bool} {n : Nat} : FOpsW P cx ops (o :: r) K ⟨t, b, k, n⟩ = match o.guard with
    | none => FOneW P cx o (FOpsW P cx ops r K) ⟨t, b, k, n⟩
    | some (j, want) => match yieldA ops ⟨t, b, k, n⟩ j with
      | some (some g) => Gd g want (FOneW P cx o (FOpsW P cx ops r K)) (FSkip o.dst (FOpsW P cx ops r K)) ⟨t, b, k, n⟩
      | some none => FSkip o.dst (FOpsW P cx ops r K) ⟨t, b, k, n⟩
      | none => False := by
  simp only [FOpsW]
end Go.AM
namespace Go.AM
open Go Go.Proofs
abbrev nilS : AV := .osl 0 [] .full
abbrev z0i : AV := .d (.raw (.int .i64 0))
theorem ovF_yes {m mm : Mo} {H : Gr → Mo → St2 → Cd × St2} {o : Ov} {st : St2} (h : agrO m mm o = true) : ovF m mm H o st = ([exOf o (H o.g o.r (inc st.1, st.2)).1], (H o.g o.r (inc st.1, st.2)).2) := if_pos h
theorem ovF_no {m mm : Mo} {H : Gr → Mo → St2 → Cd × St2} {o : Ov} {st : St2} (h : ¬ agrO m mm o = true) : ovF m mm H o st = ([], st) := if_neg h
end Go.AM
namespace Go.AM
open Go Go.Proofs
theorem fit_nil : Gr.Fit ⟨[], []⟩ := ⟨by simp, by simp⟩
theorem fit_nilM : Mo.Fit ⟨[], []⟩ := ⟨by simp, by simp⟩
theorem cdOf_fit {k : Int} {l : List Cd} (hl : l.length ≤ kidN) (h : ∀ x ∈ l, x.Fit) : (cdOf k l).Fit := .mk hl fit_nilM fit_nil (by rw [bigN_eq]; simp [cdOf, Cd.sl]) (by rw [bigN_eq]; simp [cdOf, Cd.te]) h
theorem seqL_all {α : Type} {f : α → St2 → List Cd × St2} {P : Cd → Prop} : ∀ (l : List α) (s : St2), (∀ x ∈ l, ∀ s, ∀ y ∈ (f x s).1, P y) → ∀ y ∈ (seqL f l s).1, P y
  | [], s, _, y, hy => by simp [seqL] at hy
  | x :: r, s, h, y, hy => by
    simp only [seqL] at hy
    rcases List.mem_append.1 hy with hy | hy
    · exact h x (by simp) s y hy
    · exact seqL_all r _ (fun z hz => h z (by simp [hz])) y hy
end Go.AM
namespace Go.AM
open Go Go.Proofs
abbrev Mo.cells (m : Mo) : List D := [ints m.nodes, ints m.edges]
end Go.AM
namespace Go.AM
open Go Go.Proofs
end Go.AM
namespace Go.AM
open Go Go.Proofs
end Go.AM
namespace Go.AM
open Go Go.Proofs
inductive Cd.Bare : Cd → Prop
  | mk {c : Cd} (hs : c.sl = []) (ht : c.te = []) (h : ∀ x ∈ c.kids, Cd.Bare x) : Cd.Bare c
theorem Cd.Bare.sl {c : Cd} (h : c.Bare) : c.sl = [] := by cases h; assumption
theorem Cd.Bare.te {c : Cd} (h : c.Bare) : c.te = [] := by cases h; assumption
theorem Cd.Bare.kid {c : Cd} (h : c.Bare) : ∀ x ∈ c.kids, Cd.Bare x := by cases h; assumption
theorem bare_cdOf {k : Int} {l : List Cd} (h : ∀ x ∈ l, x.Bare) : (cdOf k l).Bare := .mk rfl rfl h
theorem shf_bare : ∀ (n : Nat) (c : Cd), SizeOf.sizeOf c < n → ∀ b m st, (c.shf b m st).1.Bare
  | 0, c, hn, _, _, _ => absurd hn (Nat.not_lt_zero _)
  | n + 1, c, hn, b, m, st => by
    have ih := fun x (hx : x ∈ c.kids) => shf_bare n x (by have := Cd.kid_lt hx; omega)
    rw [c.shf_eq]
    unfold shStep
    split
    · exact bare_cdOf (by simp)
    · split
      · refine bare_cdOf (seqL_all _ _ fun x hx s y hy => ?_)
        simp only [shF, List.mem_singleton] at hy
        subst hy
        exact ih x hx b m s
      · split
        · exact bare_cdOf (by simp)
        · refine bare_cdOf (seqL_all _ _ fun o ho s y hy => ?_)
          by_cases ha : agrO m c.m o = true
          · rw [ovF_yes ha] at hy
            simp only [List.mem_singleton] at hy
            subst hy
            refine .mk rfl rfl fun z hz => ?_
            have hz' : z = (Cd.shfH c.kids o.g o.r (inc s.1, s.2)).1 := by simpa [exOf, Cd.kids] using hz
            subst hz'
            cases hk : c.kids with
            | nil => exact bare_cdOf (by simp)
            | cons x r => exact ih x (by rw [hk]; simp) o.g _ _
          · rw [ovF_no ha] at hy
            simp at hy
def stS1 (c : Cd) (nb : Nat) (box : Nat → Option (List (List AV))) (tok : Nat → Bool) (nt s : Nat) (_ : Unit) : AState :=
  ⟨tl [(s, I 0), (2, .ptr (nb + 2) 0 0), (3, .ptr (nb + 3) 0 0)], lb nb box [(3, [c.row]), (2, [c.row])], tok, nt⟩
def stS3 (c : Cd) (nb : Nat) (box : Nat → Option (List (List AV))) (tok : Nat → Bool) (nt : Nat) (i : Nat) : AState :=
  ⟨tl [(7, I i), (2, .ptr (nb + 2) 0 0), (3, .ptr (nb + 3) 0 0)], lb nb box [(3, [c.row]), (2, [c.row])], tok, nt⟩
theorem same33_c : ∀ (n : Nat) (c : Cd), SizeOf.sizeOf c < n → c.Fit → c.Bare → ∀ (tok : Nat → Bool) (nt : Nat), DCall Tryz.prog 16 [c.av, c.av] tok nt (B true) tok nt
  | 0, c, hn, _, _, tok, nt => absurd hn (Nat.not_lt_zero _)
  | n + 1, c, hn, hf, hb, tok, nt => by
    intro box nb
    have ih := fun x (hx : x ∈ c.kids) => same33_c n x (by have := Cd.kid_lt hx; omega) (hf.kid x hx) (hb.kid x hx)
    have hkb := hf.kids
    rw [kidN_eq] at hkb
    have hm := same06_c c.m c.m hf.m
    have hg := same05_c c.g c.g hf.g
    have hs := hb.sl
    have ht := hb.te
    simp only [decide_true] at hm hg
    refine sB Tryz.func16 Tryz.ntmps16 ?_
    intro hbox htok
    simp only at hbox htok
    apply AL.start
    try (simp [hs, ht])
    repeat (refine sR ?_; simp [hs, ht])
    refine Stop.of_d (hm _ _) ?_
    simp [hs, ht]
    refine Stop.of_d (hg _ _) ?_
    simp [hs, ht]
    try (simp [hs, ht])
    repeat (refine sR ?_; simp [hs, ht])
    refine sC ?_
    simp
    try (simp)
    repeat (refine sR ?_; simp)
    refine sN ?_
    refine AL.loopT (stS1 c nb box tok nt 5) (fun _ : Unit => True) (fun _ => 0) () trivial (Weaks.mk (Nat.le_refl _) rfl (by simp [ToL, lk]) (by simp [BoxL, lk])) ?_
    rintro ⟨⟩ S _ hS
    simp only [stS1] at hS
    subst hS
    try (simp [hs, ht])
    repeat (refine sR ?_; simp [hs, ht])
    refine sC ?_
    simp
    refine sX ?_
    simp only [AU, ↓reduceIte]
    try (simp [hs, ht])
    repeat (refine sR ?_; simp [hs, ht])
    refine sN ?_
    refine AL.loopT (stS1 c nb box tok nt 6) (fun _ : Unit => True) (fun _ => 0) () trivial (Weaks.mk (Nat.le_refl _) rfl (by simp [ToL, lk]) (by simp [BoxL, lk])) ?_
    rintro ⟨⟩ S _ hS
    simp only [stS1] at hS
    subst hS
    try (simp [hs, ht])
    repeat (refine sR ?_; simp [hs, ht])
    refine sC ?_
    simp
    refine sX ?_
    simp only [AU, ↓reduceIte]
    try (simp [hs, ht])
    repeat (refine sR ?_; simp [hs, ht])
    refine sN ?_
    refine AL.loopT (stS3 c nb box tok nt) (fun i => i ≤ c.kids.length) (fun i => c.kids.length - i) 0 (Nat.zero_le _) (Weaks.mk (Nat.le_refl _) rfl (by simp [ToL, lk]) (by simp [BoxL, lk])) ?_
    rintro i S hi hS
    simp only [stS3] at hS
    subst hS
    have hw := sW (i := i) (by omega)
    try (simp)
    repeat (refine sR ?_; simp)
    refine sC ?_
    simp
    refine ⟨fun hlt => ?_, fun hge => ?_⟩
    · have ihx := ih _ (List.getElem_mem hlt)
      try (simp [hlt, Cd.cells_eq])
      repeat (refine sR ?_; simp [hlt, Cd.cells_eq])
      generalize c.kids[i] = x at *
      refine Stop.of_d (ihx _ _) ?_
      simp
      try (simp)
      repeat (refine sR ?_; simp)
      refine sC ?_
      simp
      try (simp [hw])
      repeat (refine sR ?_; simp [hw])
      refine sE ?_
      exact ⟨i + 1, hlt, by omega, Weaks.mk (Nat.le_refl _) rfl (by simp [ToL, lk]) (by simp [BoxL, lk])⟩
    · refine sX ?_
      simp only [AU, ↓reduceIte]
      try (simp)
      repeat (refine sR ?_; simp)
      refine sT ?_
      try simp only [AU]
      refine ⟨by simp, sF hbox htok (fun _ h => h) (Nat.le_refl _) ?_⟩
      simp [packA]
end Go.AM
namespace Go.AM
open Go Go.Proofs
@[simp] theorem lb_base (base : Nat) (out : Nat → Option (List (List AV))) (loc : List (Nat × List (List AV))) : lb base out loc base = lk loc 0 := lb_at base 0 out loc
@[simp] theorem upd_lb_base (base : Nat) (out : Nat → Option (List (List AV))) (loc : List (Nat × List (List AV))) (rows : List (List AV)) : upd (lb base out loc) base (some rows) = lb base out ((0, rows) :: loc) := upd_lb base 0 out loc rows
@[simp] theorem to_ptr_base {q : Nat → Prop} {fz : Option (Nat × Nat × List (List D))} {base i off : Nat} {out : Nat → Option (List (List AV))} {loc : List (Nat × List (List AV))} : To (fun k => lb base out loc k ≠ none) q fz (.ptr base i off) (.ptr base i off) ↔ lk loc 0 ≠ none := to_ptr_lb (s := 0)
abbrev trueC : Cd := cdOf 1 []
theorem true33_c (tok : Nat → Bool) (nt : Nat) : DCall Tryz.prog 67 [] tok nt trueC.av tok nt := by
  intro box nb
  refine sB Tryz.func67 Tryz.ntmps67 ?_
  intro hbox htok
  simp only at hbox htok
  apply AL.start
  try (simp)
  repeat (refine sR ?_; simp)
  refine sT ?_
  try simp only [AU]
  refine ⟨by simp, sF hbox htok (fun _ h => h) (Nat.le_refl _) ?_⟩
  simp [packA, trueC, cdOf, conds, ints, AM.edges, slots, tests, Cd.kind, Cd.kids, Cd.m, Cd.g, Cd.sl, Cd.vars, Cd.te]
end Go.AM
namespace Go.AM
open Go Go.Proofs
abbrev bytes (l : List Int) : D := .sl 1 (l.map fun n => [u8 n])
end Go.AM
namespace Go.AM
open Go Go.Proofs
theorem Pre.trans {a b c : Gr} (h : Pre a b) (k : Pre b c) : Pre a c := by
  obtain ⟨t, ht⟩ := h.n
  obtain ⟨u, hu⟩ := h.e
  obtain ⟨t', ht'⟩ := k.n
  obtain ⟨u', hu'⟩ := k.e
  exact ⟨h.va, k.vb, ⟨t ++ t', by rw [ht', ht, List.append_assoc]⟩, ⟨u ++ u', by rw [hu', hu, List.append_assoc]⟩⟩
end Go.AM
namespace Go.AM
open Go
structure Sp where
  l : Gr
  r : Gr
  k : Mo
  i : Mo
structure SpOk (s : Sp) : Prop where
  k : VP s.l s.k
  i : Emb (exG s.l s.k) s.r s.i
def Sp.z (s : Sp) (m : Mo) (x : Gr) : Mo := cmpl x (imgP s.r s.i) m
def Sp.dng (s : Sp) (m : Mo) (x : Gr) : Bool := dangL x (imgP s.r s.i) m
def Sp.rest (s : Sp) (m : Mo) (x : Gr) : Gr := exG x (s.z m x)
def Sp.go (s : Sp) (m : Mo) (x : Gr) : Mo := liftM (s.z m x) (thenM s.i m)
def Sp.big (s : Sp) (m : Mo) (x : Gr) : Prop := 40 < s.l.nodes.length + (s.rest m x).nodes.length ∨ 80 < s.l.edges.length + (s.rest m x).edges.length
instance (s : Sp) (m : Mo) (x : Gr) : Decidable (s.big m x) := inferInstanceAs (Decidable (_ ∨ _))
def Sp.po (s : Sp) (m : Mo) (x : Gr) : Ov := pushO s.l (s.rest m x) s.k (s.go m x)
def Sp.inn (s : Sp) (m : Mo) (x : Gr) : Sp := ⟨(s.po m x).g, x, imgP (s.po m x).g (s.po m x).r, thenM (liftM (s.po m x).r (imgP (s.po m x).g (s.po m x).r)) (s.z m x)⟩
theorem VP.sub {g : Gr} {p : Mo} (h : VP g p) : Emb (exG g p) g p := h.emb
theorem Sp.z_vp {s : Sp} (h : SpOk s) {m : Mo} {x : Gr} (hm : Emb s.r x m) (hd : s.dng m x = false) : VP x (s.z m x) := cmpl_vp hm (imgP_vp h.i) hd
theorem keep_mem {F images : List Int} {n m : Nat} (hn : images.Nodup) (hi : images.length = n) (rF : ∀ x ∈ F, 0 ≤ x ∧ x < n) (hr : ∀ x ∈ images, 0 ≤ x ∧ x < m) : ∀ x ∈ byK F images F.length, x ∈ restI m images (ascL F n) := fun x hx => by
  obtain ⟨i, hi', rfl⟩ := mem_getD hx
  rw [byK_all] at hi'
  rw [byK_getD hi']
  have h1 := rF _ (getD_mem (d := 0) hi')
  have h2 : (F.getD i 0).toNat < images.length := by omega
  refine restI_mem.2 ⟨hr _ (getD_mem (d := 0) h2), kept_not_gone hn h2 (ascL_mem.2 ⟨?_, ?_⟩)⟩
  · rw [show (((F.getD i 0).toNat : Nat) : Int) = F.getD i 0 by omega]; exact getD_mem hi'
  · omega
theorem Sp.go_sub {s : Sp} (h : SpOk s) {m : Mo} {x : Gr} (hm : Emb s.r x m) : (∀ v ∈ (thenM s.i m).nodes, v ∈ (s.z m x).nodes) ∧ ∀ v ∈ (thenM s.i m).edges, v ∈ (s.z m x).edges := by
  have v := hm.vm
  have w := h.i.vm
  exact ⟨keep_mem hm.n v.ln w.n v.n, keep_mem hm.e v.le w.e v.e⟩
theorem Sp.go_emb {s : Sp} (h : SpOk s) {m : Mo} {x : Gr} (hm : Emb s.r x m) (hd : s.dng m x = false) : Emb (exG s.l s.k) (s.rest m x) (s.go m x) :=
  lift_emb (Sp.z_vp h hm hd).emb (h.i.comp hm) (Sp.go_sub h hm).1 (Sp.go_sub h hm).2
theorem Sp.po_emb {s : Sp} (h : SpOk s) {m : Mo} {x : Gr} (hm : Emb s.r x m) (hd : s.dng m x = false) (hb : ¬ s.big m x) :
    validG (s.po m x).g = 0 ∧ Emb s.l (s.po m x).g (s.po m x).l ∧ Emb (s.rest m x) (s.po m x).g (s.po m x).r :=
  pushO_emb h.k.emb (Sp.go_emb h hm hd) (by unfold Sp.big at hb; omega)
theorem Sp.inn_ok {s : Sp} (h : SpOk s) {m : Mo} {x : Gr} (hm : Emb s.r x m) (hd : s.dng m x = false) (hb : ¬ s.big m x) : SpOk (s.inn m x) := by
  obtain ⟨h1, h2, h3⟩ := Sp.po_emb h hm hd hb
  have hk := imgP_vp h3
  exact ⟨hk, (lift_emb h3 hk.emb imgP_sub.1 imgP_sub.2).comp (Sp.z_vp h hm hd).emb⟩
def Sp.inv (s : Sp) : Sp := ⟨s.r, s.l, imgP s.r s.i, thenM (liftM s.i (imgP s.r s.i)) s.k⟩
theorem Sp.inv_ok {s : Sp} (h : SpOk s) : SpOk s.inv := ⟨imgP_vp h.i, (lift_emb h.i (imgP_vp h.i).emb imgP_sub.1 imgP_sub.2).comp h.k.emb⟩
abbrev noC : Cd := cdOf 2 [cdOf 1 []]
def kidsE (f : Cd → Cd × Int) : List Cd → List Cd × Int
  | [] => ([], 0)
  | x :: r => if (f x).2 ≠ 0 then ([], (f x).2) else if (kidsE f r).2 ≠ 0 then ([], (kidsE f r).2) else ((f x).1 :: (kidsE f r).1, 0)
def lftStep (k : Int) (m : Mo) (g : Gr) (s : Sp) (L H : Sp → List Cd × Int) : Cd × Int :=
  if k ≠ 5 then (if (L s).2 ≠ 0 then (cdOf 0 [], (L s).2) else (cdOf k (L s).1, 0))
  else if s.dng m g = true then (noC, 0) else if s.big m g then (cdOf 0 [], 3)
  else if (H (s.inn m g)).2 ≠ 0 then (cdOf 0 [], (H (s.inn m g)).2) else (.mk 5 (H (s.inn m g)).1 (s.po m g).l (s.po m g).g [] 0 [], 0)
mutual
def Cd.lft : Cd → Sp → Cd × Int
  | .mk k c m g _ _ _, s => lftStep k m g s (fun s => Cd.lftL c s) (fun s => Cd.lftL c s)
def Cd.lftL : List Cd → Sp → List Cd × Int
  | [], _ => ([], 0)
  | x :: r, s => if (Cd.lft x s).2 ≠ 0 then ([], (Cd.lft x s).2) else if (Cd.lftL r s).2 ≠ 0 then ([], (Cd.lftL r s).2) else ((Cd.lft x s).1 :: (Cd.lftL r s).1, 0)
end
theorem Cd.lftL_eq (s : Sp) : ∀ l : List Cd, Cd.lftL l s = kidsE (fun x => Cd.lft x s) l
  | [] => by simp [Cd.lftL, kidsE]
  | x :: r => by simp [Cd.lftL, kidsE, Cd.lftL_eq s r]
theorem Cd.lft_eq (c : Cd) (s : Sp) : c.lft s = lftStep c.kind c.m c.g s (fun s => kidsE (fun x => Cd.lft x s) c.kids) (fun s => kidsE (fun x => Cd.lft x s) c.kids) := by
  cases c
  simp only [Cd.lft, Cd.lftL_eq]
  rfl
theorem kidsE_all {f : Cd → Cd × Int} : ∀ {l : List Cd}, (kidsE f l).2 = 0 → (kidsE f l).1 = l.map (fun x => (f x).1) ∧ ∀ x ∈ l, (f x).2 = 0
  | [], _ => ⟨rfl, by simp⟩
  | x :: r, h => by
    unfold kidsE at h ⊢
    split at h
    · contradiction
    · rename_i h1
      split at h
      · contradiction
      · rename_i h2
        obtain ⟨i1, i2⟩ := kidsE_all (Decidable.not_not.1 h2)
        rw [if_neg h1, if_neg h2]
        refine ⟨by rw [i1]; rfl, fun y hy => ?_⟩
        rcases List.mem_cons.1 hy with rfl | hy
        · exact Decidable.not_not.1 h1
        · exact i2 y hy
theorem kidsE_of {f : Cd → Cd × Int} : ∀ {l : List Cd}, (∀ x ∈ l, (f x).2 = 0) → kidsE f l = (l.map (fun x => (f x).1), 0)
  | [], _ => rfl
  | x :: r, h => by
    have h1 := h x (by simp)
    have ih := kidsE_of (f := f) (l := r) fun y hy => h y (by simp [hy])
    unfold kidsE
    rw [if_neg (by simp [h1]), if_neg (by simp [ih]), ih]
    rfl
theorem kidsE_at {f : Cd → Cd × Int} : ∀ {l : List Cd} {i : Nat} (hi : i < l.length), (∀ x ∈ l.take i, (f x).2 = 0) → (f l[i]).2 ≠ 0 → kidsE f l = ([], (f l[i]).2)
  | x :: r, 0, _, _, h => by
    unfold kidsE
    rw [if_pos (by simpa using h)]
    rfl
  | x :: r, i + 1, hi, ht, h => by
    have h1 := ht x (by simp)
    have hi' : i < r.length := by simpa using hi
    have ih := kidsE_at (f := f) (l := r) (i := i) hi' (fun y hy => ht y (by simp [hy])) (by simpa using h)
    unfold kidsE
    rw [if_neg (by simp [h1]), ih]
    have h2 : (f r[i]).2 ≠ 0 := by simpa using h
    rw [if_pos (by simpa using h2)]
    rfl
structure LftOk (g : Gr) (c : Cd) : Prop where
  ovr : c.ovr g = 0
  fit : c.Fit
  bare : c.Bare
theorem noC_ok (g : Gr) : LftOk g noC :=
  ⟨Cd.ovr_of rfl rfl fun x hx => by
    have : x = cdOf 1 [] := by simpa [cdOf, Cd.kids] using hx
    subst this
    exact Cd.ovr_of rfl rfl (by simp [cdOf, Cd.kids]),
   cdOf_fit (by rw [kidN_eq]; simp) (by simpa using cdOf_fit (k := 1) (l := []) (by rw [kidN_eq]; simp) (by simp)), bare_cdOf (by simpa using bare_cdOf (k := 1) (l := []) (by simp))⟩
theorem lft_ok : ∀ (n : Nat) (c : Cd), SizeOf.sizeOf c < n → c.Fit → ∀ s, SpOk s → c.ovr s.r = 0 → (c.lft s).2 = 0 → LftOk s.l (c.lft s).1
  | 0, c, hn, _, _, _, _, _ => absurd hn (Nat.not_lt_zero _)
  | n + 1, c, hn, hf, s, hs, hv, hz => by
    have ih := fun x (hx : x ∈ c.kids) => lft_ok n x (by have := Cd.kid_lt hx; omega) (hf.kid x hx)
    have hkl := hf.kids
    obtain ⟨h0, h1, h2⟩ := Cd.ovr_zero hv
    rw [c.lft_eq] at hz ⊢
    unfold lftStep at hz ⊢
    by_cases k5 : c.kind = 5
    · rw [if_neg (by simp [k5])] at hz ⊢
      obtain ⟨hm, x, hkx⟩ := ovr_ex hv k5
      by_cases hd : s.dng c.m c.g = true
      · rw [if_pos hd]; exact noC_ok _
      · rw [if_neg hd] at hz ⊢
        have hd' : s.dng c.m c.g = false := by simpa using hd
        by_cases hb : s.big c.m c.g
        · rw [if_pos hb] at hz; cases hz
        · rw [if_neg hb] at hz ⊢
          have hk := Sp.inn_ok hs hm hd' hb
          obtain ⟨p1, p2, p3⟩ := Sp.po_emb hs hm hd' hb
          split at hz
          · contradiction
          · rename_i h3
            rw [if_neg h3]
            have h3' := Decidable.not_not.1 h3
            rw [hkx] at h3' ⊢
            obtain ⟨e1, e2⟩ := kidsE_all h3'
            have hi : c.inn s.r = c.g := if_pos k5
            rw [hi] at h2
            have hx := ih x (by rw [hkx]; simp) (s.inn c.m c.g) hk (h2 x (by rw [hkx]; simp)) (e2 x (by simp))
            simp only [e1, List.map_cons, List.map_nil]
            have hg := (validG_types p1).1
            have hll : (s.po c.m c.g).l.nodes.length ≤ 40 ∧ (s.po c.m c.g).l.edges.length ≤ 80 := by
              have := p2.vm
              have := (validG_types this.va).1
              have := p2.vm.ln
              have := p2.vm.le
              omega
            refine ⟨Cd.ovr_of rfl ?_ fun y hy => ?_, .mk (by rw [kidN_eq]; simp [Cd.kids]) ⟨by show (s.po c.m c.g).l.nodes.length ≤ 1000000; omega, by show (s.po c.m c.g).l.edges.length ≤ 1000000; omega⟩ ⟨by show (s.po c.m c.g).g.nodes.length ≤ 1000000; omega, by show (s.po c.m c.g).g.edges.length ≤ 1000000; omega⟩ (by rw [bigN_eq]; simp [Cd.sl]) (by rw [bigN_eq]; simp [Cd.te]) fun y hy => ?_, .mk rfl rfl fun y hy => ?_⟩
            · show ovrStep s.l 5 (s.po c.m c.g).l (s.po c.m c.g).g = 0
              rw [ovrStep, if_pos rfl, if_neg (by simp [p2.v]), if_pos p2.inj]
            · have : y = (x.lft (s.inn c.m c.g)).1 := by simpa [Cd.kids] using hy
              subst this
              exact hx.ovr
            · have : y = (x.lft (s.inn c.m c.g)).1 := by simpa [Cd.kids] using hy
              subst this
              exact hx.fit
            · have : y = (x.lft (s.inn c.m c.g)).1 := by simpa [Cd.kids] using hy
              subst this
              exact hx.bare
    · rw [if_pos k5] at hz ⊢
      split at hz
      · contradiction
      · rename_i h3
        rw [if_neg h3]
        obtain ⟨e1, e2⟩ := kidsE_all (Decidable.not_not.1 h3)
        have hi : c.inn s.r = s.r := if_neg k5
        rw [hi] at h2
        have key : ∀ y ∈ c.kids.map (fun x => (x.lft s).1), LftOk s.l y := fun y hy => by
          obtain ⟨x, hx, rfl⟩ := List.mem_map.1 hy
          exact ih x hx s hs (h2 x hx) (e2 x hx)
        simp only [e1]
        refine ⟨Cd.ovr_of (shape_cdOf h0 k5 (by simp)) (if_neg k5) fun y hy => ?_, cdOf_fit (by simpa using hkl) fun y hy => (key y hy).fit, bare_cdOf fun y hy => (key y hy).bare⟩
        rw [Cd.inn, if_neg (show ¬ (cdOf c.kind (c.kids.map (fun x => (x.lft s).1))).kind = 5 from k5)]
        exact (key y hy).ovr
end Go.AM
namespace Go.AM
open Go Go.Proofs
def stH7 (xs : List Int) (v : Int) (nb : Nat) (box : Nat → Option (List (List AV))) (tok : Nat → Bool) (nt : Nat) (i : Nat) : AState := ⟨tl [(0, .d (ints xs)), (1, I v), (5, I i)], lb nb box [], tok, nt⟩
theorem has07_c (xs : List Int) (v : Int) (hx : xs.length ≤ 1000000) (tok : Nat → Bool) (nt : Nat) : DCall Tryz.prog 169 [.d (ints xs), I v] tok nt (B (decide (v ∈ xs))) tok nt := by
  intro box nb
  refine sB Tryz.func169 Tryz.ntmps169 ?_
  intro hbox htok
  simp only at hbox htok
  apply AL.start
  refine sR ?_
  simp
  refine sR ?_
  simp
  refine sN ?_
  refine AL.loopT (stH7 xs v nb box tok nt) (fun i => i ≤ xs.length ∧ v ∉ xs.take i) (fun i => xs.length - i) 0 ⟨Nat.zero_le _, by simp⟩ (Weaks.mk (Nat.le_refl _) rfl (by simp [ToL]) trivial) ?_
  rintro i S ⟨hi, htk⟩ hS
  simp only [stH7] at hS
  subst hS
  have hw := sW (i := i) (by omega)
  refine sR ?_
  simp
  refine sC ?_
  simp
  refine ⟨fun hlt => ?_, fun hge => ?_⟩
  · refine sR ?_
    simp [hlt]
    refine sC ?_
    simp
    refine ⟨fun he => ?_, fun hne => ?_⟩
    · refine sR ?_
      simp
      have hmem : v ∈ xs := by rw [← he]; exact List.getElem_mem _
      refine sT ?_
      try simp only [AU]
      refine ⟨by simp, sF hbox htok (fun _ h => h) (Nat.le_refl _) ?_⟩
      simp [packA, hmem]
    · refine sR ?_
      simp [hw]
      refine sE ?_
      refine ⟨i + 1, ⟨hlt, ?_⟩, by omega, Weaks.mk (Nat.le_refl _) rfl (by simp [ToL]) trivial⟩
      rw [List.take_succ_eq_append_getElem hlt]
      simp only [List.mem_append, List.mem_singleton, not_or]
      exact ⟨htk, fun e => hne e.symm⟩
  · refine sX ?_
    simp only [AU, ↓reduceIte]
    refine sR ?_
    simp
    have hn : v ∉ xs := by rwa [List.take_of_length_le hge] at htk
    refine sT ?_
    try simp only [AU]
    refine ⟨by simp, sF hbox htok (fun _ h => h) (Nat.le_refl _) ?_⟩
    simp [packA, hn]
def stH12 (xs : List Int) (v : Int) (nb : Nat) (box : Nat → Option (List (List AV))) (tok : Nat → Bool) (nt : Nat) (i : Nat) : AState := ⟨tl [(0, .d (ints xs)), (1, I v), (5, I i)], lb nb box [], tok, nt⟩
theorem has12_c (xs : List Int) (v : Int) (hx : xs.length ≤ 1000000) (tok : Nat → Bool) (nt : Nat) : DCall Tryz.prog 218 [.d (ints xs), I v] tok nt (B (decide (v ∈ xs))) tok nt := by
  intro box nb
  refine sB Tryz.func218 Tryz.ntmps218 ?_
  intro hbox htok
  simp only at hbox htok
  apply AL.start
  refine sR ?_
  simp
  refine sR ?_
  simp
  refine sN ?_
  refine AL.loopT (stH12 xs v nb box tok nt) (fun i => i ≤ xs.length ∧ v ∉ xs.take i) (fun i => xs.length - i) 0 ⟨Nat.zero_le _, by simp⟩ (Weaks.mk (Nat.le_refl _) rfl (by simp [ToL]) trivial) ?_
  rintro i S ⟨hi, htk⟩ hS
  simp only [stH12] at hS
  subst hS
  have hw := sW (i := i) (by omega)
  refine sR ?_
  simp
  refine sC ?_
  simp
  refine ⟨fun hlt => ?_, fun hge => ?_⟩
  · refine sR ?_
    simp [hlt]
    refine sC ?_
    simp
    refine ⟨fun he => ?_, fun hne => ?_⟩
    · refine sR ?_
      simp
      have hmem : v ∈ xs := by rw [← he]; exact List.getElem_mem _
      refine sT ?_
      try simp only [AU]
      refine ⟨by simp, sF hbox htok (fun _ h => h) (Nat.le_refl _) ?_⟩
      simp [packA, hmem]
    · refine sR ?_
      simp [hw]
      refine sE ?_
      refine ⟨i + 1, ⟨hlt, ?_⟩, by omega, Weaks.mk (Nat.le_refl _) rfl (by simp [ToL]) trivial⟩
      rw [List.take_succ_eq_append_getElem hlt]
      simp only [List.mem_append, List.mem_singleton, not_or]
      exact ⟨htk, fun e => hne e.symm⟩
  · refine sX ?_
    simp only [AU, ↓reduceIte]
    refine sR ?_
    simp
    have hn : v ∉ xs := by rwa [List.take_of_length_le hge] at htk
    refine sT ?_
    try simp only [AU]
    refine ⟨by simp, sF hbox htok (fun _ h => h) (Nat.le_refl _) ?_⟩
    simp [packA, hn]
def stI7 (xs : List Int) (v : Int) (nb : Nat) (box : Nat → Option (List (List AV))) (tok : Nat → Bool) (nt : Nat) (i : Nat) : AState := ⟨tl [(0, .d (ints xs)), (1, I v), (5, I i)], lb nb box [], tok, nt⟩
theorem index07_c (xs : List Int) (v : Int) (hx : xs.length ≤ 1000000) (tok : Nat → Bool) (nt : Nat) : DCall Tryz.prog 105 [.d (ints xs), I v] tok nt (I (indexI xs v)) tok nt := by
  intro box nb
  refine sB Tryz.func105 Tryz.ntmps105 ?_
  intro hbox htok
  simp only at hbox htok
  apply AL.start
  refine sR ?_
  simp
  refine sR ?_
  simp
  refine sN ?_
  refine AL.loopT (stI7 xs v nb box tok nt) (fun i => i ≤ xs.length ∧ v ∉ xs.take i) (fun i => xs.length - i) 0 ⟨Nat.zero_le _, by simp⟩ (Weaks.mk (Nat.le_refl _) rfl (by simp [ToL]) trivial) ?_
  rintro i S ⟨hi, htk⟩ hS
  simp only [stI7] at hS
  subst hS
  have hw := sW (i := i) (by omega)
  refine sR ?_
  simp
  refine sC ?_
  simp
  refine ⟨fun hlt => ?_, fun hge => ?_⟩
  · have hsp : xs = xs.take i ++ xs[i] :: xs.drop (i + 1) := by simp
    refine sR ?_
    simp [hlt]
    refine sC ?_
    simp
    refine ⟨fun he => ?_, fun hne => ?_⟩
    · refine sR ?_
      simp
      have hmem : v ∈ xs := by rw [← he]; exact List.getElem_mem _
      have hid : xs.idxOf v = i := by
        unfold List.idxOf
        rw [List.findIdx_eq hlt]
        refine ⟨by simp [he], fun j hj => ?_⟩
        have : xs[j] ≠ v := fun e => htk (by rw [← e, List.mem_take_iff_getElem]; exact ⟨j, by omega, rfl⟩)
        simpa using this
      refine sT ?_
      try simp only [AU]
      refine ⟨by simp, sF hbox htok (fun _ h => h) (Nat.le_refl _) ?_⟩
      simp [packA, indexI, hmem, hid]
    · refine sR ?_
      simp [hw]
      refine sE ?_
      refine ⟨i + 1, ⟨hlt, ?_⟩, by omega, Weaks.mk (Nat.le_refl _) rfl (by simp [ToL]) trivial⟩
      rw [List.take_succ_eq_append_getElem hlt]
      simp only [List.mem_append, List.mem_singleton, not_or]
      exact ⟨htk, fun e => hne e.symm⟩
  · refine sX ?_
    simp only [AU, ↓reduceIte]
    refine sR ?_
    simp
    have hn : v ∉ xs := by rwa [List.take_of_length_le hge] at htk
    refine sT ?_
    try simp only [AU]
    refine ⟨by simp, sF hbox htok (fun _ h => h) (Nat.le_refl _) ?_⟩
    simp [packA, indexI, hn]
def stAs (l : List Int) (n : Int) (nb : Nat) (box : Nat → Option (List (List AV))) (tok : Nat → Bool) (nt : Nat) (i : Nat) : AState := ⟨tl [(0, .d (ints l)), (1, I n), (5, I i)], lb nb box [], tok, nt⟩
theorem asc07_c (l : List Int) (n : Int) (hl : l.length ≤ 1000000) (tok : Nat → Bool) (nt : Nat) : DCall Tryz.prog 168 [.d (ints l), I n] tok nt (I (ascE l n)) tok nt := by
  intro box nb
  refine sB Tryz.func168 Tryz.ntmps168 ?_
  intro hbox htok
  simp only at hbox htok
  apply AL.start
  try (simp)
  repeat (refine sR ?_; simp)
  refine sN ?_
  refine AL.loopT (stAs l n nb box tok nt) (fun i => i ≤ l.length ∧ firstE (ascAt l n) i = 0) (fun i => l.length - i) 0 ⟨Nat.zero_le _, rfl⟩ (Weaks.mk (Nat.le_refl _) rfl (by simp [ToL]) trivial) ?_
  rintro i S ⟨hi, hok⟩ hS
  simp only [stAs] at hS
  subst hS
  have hw := sW (i := i) (by omega)
  have hR : i < l.length → ascAt l n i ≠ 0 → ascE l n = ascAt l n i := fun hlt h0 => firstE_stop hok h0 l.length hlt
  try (simp)
  repeat (refine sR ?_; simp)
  refine sC ?_
  simp
  refine ⟨fun hlt => ?_, fun hge => ?_⟩
  · have hg : l.getD i 0 = l[i] := by simp [hlt]
    have hR := hR hlt
    have hA : ascAt l n i = if l[i] < 0 ∨ n ≤ l[i] then 6 else if 0 < i ∧ l[i] ≤ l.getD (i - 1) 0 then 12 else 0 := by rw [ascAt, hg]
    try (simp [hlt])
    repeat (refine sR ?_; simp [hlt])
    by_cases hneg : l[i] < 0
    · try (simp [hneg, hlt])
      repeat (refine sR ?_; simp [hneg, hlt])
      refine sC ?_
      simp
      try (simp)
      repeat (refine sR ?_; simp)
      rw [hA, if_pos (.inl hneg)] at hR
      have hR := hR (by decide)
      refine sT ?_
      try simp only [AU]
      refine ⟨by simp, sF hbox htok (fun _ h => h) (Nat.le_refl _) ?_⟩
      simp [packA, hR]
    · try (simp [hneg, hlt])
      repeat (refine sR ?_; simp [hneg, hlt])
      by_cases hbig : n ≤ l[i]
      · simp only [hbig]
        refine sC ?_
        simp
        try (simp)
        repeat (refine sR ?_; simp)
        rw [hA, if_pos (.inr hbig)] at hR
        have hR := hR (by decide)
        refine sT ?_
        try simp only [AU]
        refine ⟨by simp, sF hbox htok (fun _ h => h) (Nat.le_refl _) ?_⟩
        simp [packA, hR]
      · simp only [hbig]
        rw [if_neg (by omega)] at hA
        refine sC ?_
        simp
        by_cases h0 : 0 < i
        · have hw' : IntKind.i64.wrap (↑i - 1) = ((i - 1 : Nat) : Int) := by rw [wrap_in (by omega) (by omega)]; omega
          have hlt' : i - 1 < l.length := by omega
          have hg' : l.getD (i - 1) 0 = l[i - 1] := by simp [hlt']
          rw [hg'] at hA
          try (simp [hlt, h0, hw', hlt'])
          repeat (refine sR ?_; simp [hlt, h0, hw', hlt'])
          by_cases hle : l[i] ≤ l[i - 1]
          · rw [if_pos ⟨h0, hle⟩] at hA
            rw [hA] at hR
            have hR := hR (by decide)
            simp only [hle]
            refine sC ?_
            simp
            try (simp)
            repeat (refine sR ?_; simp)
            refine sT ?_
            try simp only [AU]
            refine ⟨by simp, sF hbox htok (fun _ h => h) (Nat.le_refl _) ?_⟩
            simp [packA, hR]
          · rw [if_neg (by omega)] at hA
            simp only [hle]
            refine sC ?_
            simp
            try (simp [hw])
            repeat (refine sR ?_; simp [hw])
            refine sE ?_
            exact ⟨i + 1, ⟨hlt, by simp only [firstE, hok, hA, ↓reduceIte]⟩, by omega, Weaks.mk (Nat.le_refl _) rfl (by simp [ToL]) trivial⟩
        · rw [if_neg (by omega)] at hA
          try (simp [hlt, h0])
          repeat (refine sR ?_; simp [hlt, h0])
          refine sC ?_
          simp
          try (simp [hw])
          repeat (refine sR ?_; simp [hw])
          refine sE ?_
          exact ⟨i + 1, ⟨hlt, by simp only [firstE, hok, hA, ↓reduceIte]⟩, by omega, Weaks.mk (Nat.le_refl _) rfl (by simp [ToL]) trivial⟩
  · refine sX ?_
    simp only [AU, ↓reduceIte]
    try (simp)
    repeat (refine sR ?_; simp)
    have : i = l.length := by omega
    subst this
    refine sT ?_
    try simp only [AU]
    refine ⟨by simp, sF hbox htok (fun _ h => h) (Nat.le_refl _) ?_⟩
    simp [packA, ascE, hok]
def stRi (g : Gr) (p : Mo) (nb : Nat) (box : Nat → Option (List (List AV))) (tok : Nat → Bool) (nt : Nat) (i : Nat) : AState :=
  ⟨tl [(7, I i), (3, .ptr (nb + 3) 0 0), (2, .ptr (nb + 2) 0 0)], lb nb box [(3, [[.d (ints p.nodes), .d (ints p.edges)]]), (2, [[.d (ints g.nodes), .d (AM.edges g.edges)]])], tok, nt⟩
theorem right07_c (g : Gr) (p : Mo) (hg : g.Fit) (hv : validG g = 0) (hp : p.Fit) (tok : Nat → Bool) (nt : Nat) : DCall Tryz.prog 104 [g.av, p.av] tok nt (I (rightP g p)) tok nt := by
  intro box nb
  have h1 := asc07_c p.nodes g.nodes.length hp.n
  have h2 := asc07_c p.edges g.edges.length hp.e
  refine sB Tryz.func104 Tryz.ntmps104 ?_
  intro hbox htok
  simp only at hbox htok
  apply AL.start
  try (simp)
  repeat (refine sR ?_; simp)
  refine Stop.of_d (h1 _ _) ?_
  simp
  try (simp)
  repeat (refine sR ?_; simp)
  by_cases e1 : ascE p.nodes g.nodes.length = 0
  · simp only [e1]
    refine sC ?_
    simp
    try (simp)
    repeat (refine sR ?_; simp)
    refine Stop.of_d (h2 _ _) ?_
    simp
    try (simp)
    repeat (refine sR ?_; simp)
    by_cases e2 : ascE p.edges g.edges.length = 0
    · simp only [e2]
      refine sC ?_
      simp
      try (simp)
      repeat (refine sR ?_; simp)
      refine sN ?_
      have re := asc_rng e2
      refine AL.loopT (stRi g p nb box tok nt) (fun i => i ≤ p.edges.length ∧ firstE (dangAt g p) i = 0) (fun i => p.edges.length - i) 0 ⟨Nat.zero_le _, rfl⟩ (Weaks.mk (Nat.le_refl _) rfl (by simp [ToL, lk]) (by simp [BoxL, lk])) ?_
      rintro i S ⟨hi, hok⟩ hS
      simp only [stRi] at hS
      subst hS
      have hpe := hp.e
      have hw := sW (i := i) (by omega)
      have hR : i < p.edges.length → dangAt g p i ≠ 0 → rightP g p = dangAt g p i := fun hlt h0 => by
        have := firstE_stop hok h0 p.edges.length hlt
        simp [rightP, e1, e2, this]
      try (simp)
      repeat (refine sR ?_; simp)
      refine sC ?_
      simp
      refine ⟨fun hlt => ?_, fun hge => ?_⟩
      · have hR := hR hlt
        obtain ⟨r1, r2⟩ := re _ (List.getElem_mem hlt)
        have r3 : p.edges[i].toNat < g.edges.length := by omega
        have hD : dangAt g p i = if g.edges[p.edges[i].toNat].fr ∈ p.nodes ∧ g.edges[p.edges[i].toNat].to ∈ p.nodes then 0 else 14 := by
          have q1 : p.edges.getD i 0 = p.edges[i] := by simp [hlt]
          have q2 : g.edges.getD p.edges[i].toNat default = g.edges[p.edges[i].toNat] := by simp [r3]
          rw [dangAt, q1, q2]
        have hh := fun v => has07_c p.nodes v hp.n
        refine sN ?_
        refine AL.region2 follows_Tryz (Nat.le_refl _) (by kernel_rfl) (Side.of (by simp)) ?_
        simp [hlt, r1, r2, r3]
        generalize g.edges[p.edges[i].toNat] = x at *
        try (simp)
        repeat (refine sR ?_; simp)
        refine Stop.of_d (hh _ _ _) ?_
        simp
        by_cases h1 : x.fr ∈ p.nodes
        · simp only [h1]
          try (simp)
          repeat (refine sR ?_; simp)
          refine Stop.of_d (hh _ _ _) ?_
          simp
          by_cases h2 : x.to ∈ p.nodes
          · rw [if_pos ⟨h1, h2⟩] at hD
            simp only [h2]
            try (simp)
            repeat (refine sR ?_; simp)
            refine sC ?_
            simp
            try (simp [hw])
            repeat (refine sR ?_; simp [hw])
            refine sE ?_
            exact ⟨i + 1, ⟨hlt, by simp only [firstE, hok, hD, ↓reduceIte]⟩, by omega, Weaks.mk (Nat.le_refl _) rfl (by simp [ToL, lk]) (by simp [BoxL, lk])⟩
          · rw [if_neg (fun h => h2 h.2)] at hD
            rw [hD] at hR
            have hR := hR (by decide)
            simp only [h2]
            try (simp)
            repeat (refine sR ?_; simp)
            refine sC ?_
            simp
            try (simp)
            repeat (refine sR ?_; simp)
            refine sT ?_
            try simp only [AU]
            refine ⟨by simp, sF hbox htok (fun _ h => h) (Nat.le_refl _) ?_⟩
            simp [packA, hR]
        · rw [if_neg (fun h => h1 h.1)] at hD
          rw [hD] at hR
          have hR := hR (by decide)
          simp only [h1]
          try (simp)
          repeat (refine sR ?_; simp)
          refine sC ?_
          simp
          try (simp)
          repeat (refine sR ?_; simp)
          refine sT ?_
          try simp only [AU]
          refine ⟨by simp, sF hbox htok (fun _ h => h) (Nat.le_refl _) ?_⟩
          simp [packA, hR]
      · refine sX ?_
        simp only [AU, ↓reduceIte]
        try (simp)
        repeat (refine sR ?_; simp)
        have : i = p.edges.length := by omega
        subst this
        refine sT ?_
        try simp only [AU]
        refine ⟨by simp, sF hbox htok (fun _ h => h) (Nat.le_refl _) ?_⟩
        simp [packA, rightP, e1, e2, hok]
    · have b2 : (ascE p.edges g.edges.length != 0) = true := by simp [e2]
      simp only [b2]
      refine sC ?_
      simp
      try (simp)
      repeat (refine sR ?_; simp)
      refine sT ?_
      try simp only [AU]
      refine ⟨by simp, sF hbox htok (fun _ h => h) (Nat.le_refl _) ?_⟩
      simp [packA, rightP, e1, e2]
  · have b1 : (ascE p.nodes g.nodes.length != 0) = true := by simp [e1]
    simp only [b1]
    refine sC ?_
    simp
    try (simp)
    repeat (refine sR ?_; simp)
    refine sT ?_
    try simp only [AU]
    refine ⟨by simp, sF hbox htok (fun _ h => h) (Nat.le_refl _) ?_⟩
    simp [packA, rightP, e1]
theorem valid07_c (g : Gr) (p : Mo) (hg : g.Fit) (hp : p.Fit) (tok : Nat → Bool) (nt : Nat) : DCall Tryz.prog 49 [g.av, p.av] tok nt (I (validP g p)) tok nt := by
  intro box nb
  have h1 := valid05_c g hg
  have h2 := fun h => right07_c g p hg h hp
  refine sB Tryz.func49 Tryz.ntmps49 ?_
  intro hbox htok
  simp only at hbox htok
  apply AL.start
  try (simp)
  repeat (refine sR ?_; simp)
  refine Stop.of_d (h1 _ _) ?_
  simp
  try (simp)
  repeat (refine sR ?_; simp)
  by_cases e1 : validG g = 0
  · simp only [e1]
    refine sC ?_
    simp
    try (simp)
    repeat (refine sR ?_; simp)
    refine Stop.of_d (h2 e1 _ _) ?_
    simp
    try (simp)
    repeat (refine sR ?_; simp)
    refine sT ?_
    try simp only [AU]
    refine ⟨by simp, sF hbox htok (fun _ h => h) (Nat.le_refl _) ?_⟩
    simp [packA, validP, e1]
  · have b1 : (validG g != 0) = true := by simp [e1]
    simp only [b1]
    refine sC ?_
    simp
    try (simp)
    repeat (refine sR ?_; simp)
    refine sT ?_
    try simp only [AU]
    refine ⟨by simp, sF hbox htok (fun _ h => h) (Nat.le_refl _) ?_⟩
    simp [packA, validP, e1]
def exN07 (g : Gr) (p : Mo) (i : Nat) : List Int := (p.nodes.take i).map fun k => g.nodes.getD k.toNat 0
def exE07 (g : Gr) (p : Mo) (i : Nat) : List E := (p.edges.take i).map (exE1 g p)
def stEx1 (g : Gr) (p : Mo) (nb : Nat) (box : Nat → Option (List (List AV))) (x : Acc) : AState :=
  ⟨tl [(9, I x.i), (8, .ptr (nb + 8) 0 0), (5, .ptr (nb + 5) 0 0), (4, .ptr (nb + 4) 0 0), (3, .ptr (nb + 3) 0 0), (2, .ptr (nb + 2) 0 0)],
    lb nb box [(8, [[.osl 1 (rI (exN07 g p x.i)) x.own, .osl 0 [] .full]]), (3, [[.d (ints p.nodes), .d (ints p.edges)]]), (2, [[.d (ints g.nodes), .d (AM.edges g.edges)]]), (5, [[nilS, nilS]]), (4, [[nilS, nilS]])], x.tok, x.nt⟩
def stEx2 (g : Gr) (p : Mo) (own1 : Own) (nb : Nat) (box : Nat → Option (List (List AV))) (x : Acc) : AState :=
  ⟨tl [(10, I x.i), (8, .ptr (nb + 8) 0 0), (5, .ptr (nb + 5) 0 0), (4, .ptr (nb + 4) 0 0), (3, .ptr (nb + 3) 0 0), (2, .ptr (nb + 2) 0 0)],
    lb nb box [(8, [[.d (ints (exN07 g p p.nodes.length)), .osl 3 (rE (exE07 g p x.i)) x.own]]), (3, [[.d (ints p.nodes), .d (ints p.edges)]]), (2, [[.d (ints g.nodes), .d (AM.edges g.edges)]]), (5, [[nilS, nilS]]), (4, [[nilS, nilS]])], x.tok, x.nt⟩
theorem exN07_zero (g : Gr) (p : Mo) : exN07 g p 0 = [] := by simp [exN07]
theorem exE07_zero (g : Gr) (p : Mo) : exE07 g p 0 = [] := by simp [exE07]
theorem exN07_succ (g : Gr) (p : Mo) {i : Nat} (h : i < p.nodes.length) : exN07 g p (i + 1) = exN07 g p i ++ [g.nodes.getD p.nodes[i].toNat 0] := by simp only [exN07, List.take_add_one, List.getElem?_eq_getElem h, Option.toList, List.map_append, List.map_cons, List.map_nil]
theorem exE07_succ (g : Gr) (p : Mo) {i : Nat} (h : i < p.edges.length) : exE07 g p (i + 1) = exE07 g p i ++ [exE1 g p p.edges[i]] := by simp only [exE07, List.take_add_one, List.getElem?_eq_getElem h, Option.toList, List.map_append, List.map_cons, List.map_nil]
theorem exN07_len (g : Gr) (p : Mo) (i : Nat) : (exN07 g p i).length ≤ i := by simp [exN07]; omega
theorem exE07_len (g : Gr) (p : Mo) (i : Nat) : (exE07 g p i).length ≤ i := by simp [exE07]; omega
theorem exG_07 (g : Gr) (p : Mo) : exG g p = ⟨exN07 g p p.nodes.length, exE07 g p p.edges.length⟩ := by simp [exG, exN07, exE07]
theorem extract07_c (g : Gr) (p : Mo) (hg : g.Fit) (hp : p.Fit) (h : VP g p) (tok : Nat → Bool) (nt : Nat) : DCall Tryz.prog 50 [g.av, p.av] tok nt (.tup [(exG g p).av, p.av, I 0]) tok nt := by
  intro box nb
  have h1 := valid07_c g p hg hp
  rw [h.v] at h1
  refine sB Tryz.func50 Tryz.ntmps50 ?_
  intro hbox htok
  simp only at hbox htok
  apply AL.start
  try (simp)
  repeat (refine sR ?_; simp)
  refine Stop.of_d (h1 _ _) ?_
  simp
  try (simp)
  repeat (refine sR ?_; simp)
  refine sC ?_
  simp
  try (simp)
  repeat (refine sR ?_; simp)
  refine sN ?_
  have hpn := hp.n
  have hpe := hp.e
  refine AL.loopT (stEx1 g p nb box) (fun x => x.i ≤ p.nodes.length ∧ TK tok nt x.tok x.nt [x.own]) (fun x => p.nodes.length - x.i) ⟨0, .full, tok, nt⟩ ⟨Nat.zero_le _, (TK.start htok).full⟩ (Weaks.mk (Nat.le_refl _) rfl (by simp [ToL, lk]) (by simp [BoxL, lk, exN07_zero])) ?_
  rintro ⟨i, own, tok', nt'⟩ S ⟨hi, htk⟩ hS
  simp only [stEx1] at hS hi htk
  subst hS
  have hw := sW (i := i) (by omega)
  try (simp)
  repeat (refine sR ?_; simp)
  refine sC ?_
  simp
  refine ⟨fun hlt => ?_, fun hge => ?_⟩
  · obtain ⟨r1, r2⟩ := h.n _ (List.getElem_mem hlt)
    have r3 : p.nodes[i].toNat < g.nodes.length := by omega
    refine sR ?_
    simp [hlt, r1, r2, r3]
    refine ⟨⟨by have := exN07_len g p i; omega, htk.live⟩, ?_⟩
    try (simp [hw])
    repeat (refine sR ?_; simp [hw])
    refine sE ?_
    exact ⟨⟨i + 1, _, _, _⟩, ⟨hlt, htk.app⟩, by simp only; omega, Weaks.mk htk.app.le rfl (by simp [ToL, lk]) (by simp [BoxL, lk, exN07_succ g p hlt, r3])⟩
  · refine sX ?_
    simp only [AU, ↓reduceIte]
    have : i = p.nodes.length := by omega
    subst this
    try (simp)
    repeat (refine sR ?_; simp)
    refine sN ?_
    refine AL.loopT (stEx2 g p own nb box) (fun x => x.i ≤ p.edges.length ∧ TK tok nt x.tok x.nt [x.own]) (fun x => p.edges.length - x.i) ⟨0, .full, tok', nt'⟩ ⟨Nat.zero_le _, htk.tail.full⟩ (Weaks.mk htk.le rfl (by simp [ToL, lk]) (by simp [BoxL, lk, exE07_zero])) ?_
    rintro ⟨i, own2, tok2, nt2⟩ S ⟨hi, htk2⟩ hS
    simp only [stEx2] at hS hi htk2
    subst hS
    have hw := sW (i := i) (by omega)
    have hh := fun v => index07_c p.nodes v hp.n
    try (simp)
    repeat (refine sR ?_; simp)
    refine sC ?_
    simp
    refine ⟨fun hlt => ?_, fun hge => ?_⟩
    · obtain ⟨r1, r2⟩ := h.e _ (List.getElem_mem hlt)
      have r3 : p.edges[i].toNat < g.edges.length := by omega
      have hE : exE1 g p p.edges[i] = ⟨g.edges[p.edges[i].toNat].ty, indexI p.nodes g.edges[p.edges[i].toNat].fr, indexI p.nodes g.edges[p.edges[i].toNat].to⟩ := by
        have q2 : g.edges.getD p.edges[i].toNat default = g.edges[p.edges[i].toNat] := by simp [r3]
        rw [exE1, q2]
      have hsucc := exE07_succ g p hlt
      rw [hE] at hsucc
      refine sN ?_
      refine AL.region2 follows_Tryz (Nat.le_refl _) (by kernel_rfl) (Side.of (by simp)) ?_
      simp [hlt, r1, r2, r3]
      generalize g.edges[p.edges[i].toNat] = x at *
      refine sR ?_
      simp
      refine Stop.of_d (hh _ _ _) ?_
      simp
      refine Stop.of_d (hh _ _ _) ?_
      simp
      refine ⟨⟨by have := exE07_len g p i; omega, htk2.live⟩, ?_⟩
      try (simp [hw])
      repeat (refine sR ?_; simp [hw])
      refine sE ?_
      exact ⟨⟨i + 1, _, _, _⟩, ⟨hlt, htk2.app⟩, by simp only; omega, Weaks.mk htk2.app.le rfl (by simp [ToL, lk]) (by simp [BoxL, lk, hsucc])⟩
    · refine sX ?_
      simp only [AU, ↓reduceIte]
      have : i = p.edges.length := by omega
      subst this
      try (simp)
      repeat (refine sR ?_; simp)
      refine ⟨by omega, by omega, ?_⟩
      have htk3 := htk2.full.app.full.app
      refine sT ?_
      try simp only [AU]
      refine ⟨by simp, sF hbox htok htk3.old htk3.le ?_⟩
      simp [packA, exG_07]
theorem few07_c (p : Mo) (n : Int) (h1 : p.nodes.length ≤ 281474976710656) (h2 : p.edges.length ≤ 281474976710656) (tok : Nat → Bool) (nt : Nat) : DCall Tryz.prog 36 [p.av, I n] tok nt (B (fewM p n)) tok nt := by
  intro box nb
  have hw : IntKind.i64.wrap (↑p.nodes.length + ↑p.edges.length) = (p.nodes.length : Int) + p.edges.length := wrap_in (by omega) (by omega)
  refine sB Tryz.func36 Tryz.ntmps36 ?_
  intro hbox htok
  simp only at hbox htok
  apply AL.start
  try (simp [hw])
  repeat (refine sR ?_; simp [hw])
  refine sT ?_
  try simp only [AU]
  refine ⟨by simp, sF hbox htok (fun _ h => h) (Nat.le_refl _) ?_⟩
  simp [packA, fewM]
end Go.AM
namespace Go.AM
open Go Go.Proofs
theorem isNaN_c (n : Int) (tok : Nat → Bool) (nt : Nat) : DCall Tryz.prog 255 [I n] tok nt (B false) tok nt := by
  intro box nb
  refine sB Tryz.func255 Tryz.ntmps255 ?_
  intro hbox htok
  simp only at hbox htok
  apply AL.start
  try (simp)
  repeat (refine sR ?_; simp)
  refine sT ?_
  try simp only [AU]
  refine ⟨by simp, sF hbox htok (fun _ h => h) (Nat.le_refl _) ?_⟩
  simp [packA]
theorem isNaNs_c (n : Int) (tok : Nat → Bool) (nt : Nat) : DCall Tryz.prog 215 [I n] tok nt (B false) tok nt := by
  intro box nb
  refine sB Tryz.func215 Tryz.ntmps215 ?_
  intro hbox htok
  simp only at hbox htok
  apply AL.start
  try (simp)
  repeat (refine sR ?_; simp)
  refine sT ?_
  try simp only [AU]
  refine ⟨by simp, sF hbox htok (fun _ h => h) (Nat.le_refl _) ?_⟩
  simp [packA]
theorem less_c (m n : Int) (tok : Nat → Bool) (nt : Nat) : DCall Tryz.prog 214 [I m, I n] tok nt (B (decide (m < n))) tok nt := by
  intro box nb
  have h := isNaN_c
  refine sB Tryz.func214 Tryz.ntmps214 ?_
  intro hbox htok
  simp only at hbox htok
  apply AL.start
  try (simp)
  repeat (refine sR ?_; simp)
  refine Stop.of_d (h _ _ _) ?_
  simp
  try (simp)
  repeat (refine sR ?_; simp)
  refine sT ?_
  try simp only [AU]
  refine ⟨by simp, sF hbox htok (fun _ h => h) (Nat.le_refl _) ?_⟩
  simp [packA]
def lowI (l : List Int) (v : Int) : Nat := l.findIdx fun x => decide (v ≤ x)
theorem lowI_eq {l : List Int} {v : Int} {i : Nat} (hi : i ≤ l.length) (h1 : ∀ t, t < i → l.getD t 0 < v) (h2 : ∀ t, i ≤ t → t < l.length → v ≤ l.getD t 0) : lowI l v = i := by
  unfold lowI
  have gd : ∀ t (h : t < l.length), l.getD t 0 = l[t] := fun t h => by simp [h]
  by_cases h : i < l.length
  · rw [List.findIdx_eq h]
    refine ⟨?_, fun j hj => ?_⟩
    · have := h2 i (Nat.le_refl _) h
      rw [gd i h] at this
      simpa using this
    · have := h1 j hj
      rw [gd j (by omega)] at this
      simpa using this
  · have : i = l.length := by omega
    subst this
    rw [List.findIdx_eq_length]
    intro x hx
    obtain ⟨t, ht, rfl⟩ := List.getElem_of_mem hx
    have := h1 t ht
    rw [gd t ht] at this
    simpa using this
theorem lowI_index {l : List Int} {v : Int} (hs : ∀ j i, i < j → j < l.length → l.getD i 0 < l.getD j 0) (hm : v ∈ l) : (lowI l v : Int) = indexI l v := by
  obtain ⟨i1, i2, i3⟩ := indexI_in hm
  obtain ⟨k, hk⟩ : ∃ k : Nat, indexI l v = k := ⟨(indexI l v).toNat, by omega⟩
  rw [hk] at i1 i2 i3 ⊢
  rw [Int.toNat_natCast] at i3
  rw [lowI_eq (i := k) (by omega) (fun t ht => by rw [← i3]; exact hs k t ht (by omega)) fun t h1 h2 => by
    rw [← i3]
    by_cases e : t = k
    · subst e; omega
    · have := hs t k (by omega) h2; omega]
structure AccB where
  i : Nat
  j : Nat
def stBs (l : List Int) (v : Int) (nb : Nat) (box : Nat → Option (List (List AV))) (tok : Nat → Bool) (nt : Nat) (a : AccB) : AState := ⟨tl [(8, I a.j), (7, I a.i), (6, I l.length), (5, B false), (4, I 0), (0, .d (ints l)), (1, I v)], lb nb box [], tok, nt⟩
theorem search_c (l : List Int) (v : Int) (hl : l.length ≤ 1000000) (hs : ∀ j i, i < j → j < l.length → l.getD i 0 < l.getD j 0) (tok : Nat → Bool) (nt : Nat) :
    DCall Tryz.prog 156 [.d (ints l), I v] tok nt (.tup [I (lowI l v), B (decide (v ∈ l))]) tok nt := by
  intro box nb
  refine sB Tryz.func156 Tryz.ntmps156 ?_
  intro hbox htok
  simp only at hbox htok
  apply AL.start
  try (simp)
  repeat (refine sR ?_; simp)
  refine sN ?_
  refine AL.loopT (stBs l v nb box tok nt) (fun a => a.i ≤ a.j ∧ a.j ≤ l.length ∧ (∀ t, t < a.i → l.getD t 0 < v) ∧ ∀ t, a.j ≤ t → t < l.length → v ≤ l.getD t 0) (fun a => a.j - a.i) ⟨0, l.length⟩ ⟨Nat.zero_le _, Nat.le_refl _, fun t ht => absurd ht (Nat.not_lt_zero _), fun t h1 h2 => absurd h2 (by simp only at h1; omega)⟩ (Weaks.mk (Nat.le_refl _) rfl (by simp [ToL, lk]) trivial) ?_
  rintro ⟨i, j⟩ S ⟨hij, hj, h1, h2⟩ hS
  simp only [stBs] at hS hij hj h1 h2
  subst hS
  try (simp)
  repeat (refine sR ?_; simp)
  refine sC ?_
  simp
  refine ⟨fun hlt => ?_, fun hge => ?_⟩
  · obtain ⟨q, hq⟩ : ∃ q, i + j = q := ⟨_, rfl⟩
    obtain ⟨h, hh⟩ : ∃ h, q / 2 = h := ⟨_, rfl⟩
    have w1 : IntKind.i64.wrap (↑i + ↑j) = (q : Int) := by rw [wrap_in (by omega) (by omega)]; omega
    have w2 : IntKind.u64.wrap (q : Int) = q := u64_in (by omega) (by omega)
    have w3 : (q : Int).fdiv (2 ^ min 1 IntKind.u64.bits) = (h : Int) := by
      have e : (2 : Int) ^ min 1 IntKind.u64.bits = 2 := by decide
      rw [e, Int.fdiv_eq_ediv_of_nonneg _ (by omega)]
      omega
    have w4 : IntKind.i64.wrap (h : Int) = h := wrap_in (by omega) (by omega)
    have w5 : IntKind.i64.wrap ((h : Int) + 1) = ((h + 1 : Nat) : Int) := by rw [wrap_in (by omega) (by omega)]; rfl
    have hhl : h < l.length := by omega
    have hgh : l.getD h 0 = l[h] := by simp [hhl]
    have hls := less_c l[h] v
    try (simp [w1, w2, w3, w4, hhl])
    repeat (refine sR ?_; simp [w1, w2, w3, w4, hhl])
    refine Stop.of_d (hls _ _) ?_
    simp
    by_cases hv : l[h] < v
    · simp only [hv]
      refine sC ?_
      simp
      try (simp [w5])
      repeat (refine sR ?_; simp [w5])
      refine sE ?_
      refine ⟨⟨h + 1, j⟩, ⟨by simp only; omega, hj, fun t ht => ?_, h2⟩, by simp only; omega, Weaks.mk (Nat.le_refl _) rfl (by simp [ToL, lk]) trivial⟩
      simp only at ht
      rw [← List.getD_eq_getElem?_getD]
      by_cases e : t = h
      · rw [e, hgh]; exact hv
      · have := hs h t (by omega) hhl
        rw [hgh] at this
        omega
    · simp only [hv]
      refine sC ?_
      simp
      try (simp)
      repeat (refine sR ?_; simp)
      refine sE ?_
      refine ⟨⟨i, h⟩, ⟨by simp only; omega, by simp only; omega, h1, fun t ht htl => ?_⟩, by simp only; omega, Weaks.mk (Nat.le_refl _) rfl (by simp [ToL, lk]) trivial⟩
      simp only at ht
      rw [← List.getD_eq_getElem?_getD]
      by_cases e : t = h
      · rw [e, hgh]; omega
      · have := hs t h (by omega) htl
        rw [hgh] at this
        omega
  · refine sX ?_
    simp only [AU, ↓reduceIte]
    have hij2 : i = j := by omega
    subst hij2
    have hlow : lowI l v = i := lowI_eq hj h1 h2
    have hmem : i < l.length → l.getD i 0 = v → v ∈ l := fun h3 h4 => by rw [← h4]; exact getD_mem h3
    have hin : v ∈ l → i < l.length ∧ l.getD i 0 = v := fun hm => by
      obtain ⟨t, ht, e⟩ := mem_getD hm
      have a1 : ¬ t < i := fun h3 => by have := h1 t h3; omega
      have a2 : ¬ i < t := fun h3 => by
        have := hs t i h3 ht
        have := h2 i (Nat.le_refl _) (by omega)
        omega
      have : t = i := by omega
      subst this
      exact ⟨ht, e⟩
    by_cases h3 : i < l.length
    · have hg : l.getD i 0 = l[i] := by simp [h3]
      rw [hg] at hmem hin
      by_cases h4 : l[i] = v
      · have hm := hmem h3 h4
        have hb : (l[i] == v) = true := by simp [h4]
        try (simp [h3, hb])
        repeat (refine sR ?_; simp [h3, hb])
        refine sT ?_
        try simp only [AU]
        refine ⟨by simp, sF hbox htok (fun _ h => h) (Nat.le_refl _) ?_⟩
        simp [packA, hlow, hm]
      · have hm : v ∉ l := fun h => h4 (hin h).2
        have hb : (l[i] == v) = false := by simp [h4]
        try (simp [h3, hb])
        repeat (refine sR ?_; simp [h3, hb])
        refine Stop.of_d (isNaNs_c _ _ _) ?_
        simp
        try (simp)
        repeat (refine sR ?_; simp)
        refine sT ?_
        try simp only [AU]
        refine ⟨by simp, sF hbox htok (fun _ h => h) (Nat.le_refl _) ?_⟩
        simp [packA, hlow, hm]
    · have hm : v ∉ l := fun h => h3 (hin h).1
      try (simp [h3])
      repeat (refine sR ?_; simp [h3])
      refine sT ?_
      try simp only [AU]
      refine ⟨by simp, sF hbox htok (fun _ h => h) (Nat.le_refl _) ?_⟩
      simp [packA, hlow, hm]
def stLi (l : List Int) (n : Int) (nb : Nat) (box : Nat → Option (List (List AV))) (tok : Nat → Bool) (nt : Nat) (i : Nat) : AState := ⟨tl [(9, I i), (8, I l.length), (7, .d (ints l)), (4, I 0), (0, .d (ints l)), (1, I n)], lb nb box [], tok, nt⟩
theorem list_c (l : List Int) (n : Int) (hl : l.length ≤ 1000000) (tok : Nat → Bool) (nt : Nat) : DCall Tryz.prog 212 [.d (ints l), I n] tok nt (I (ascE l n)) tok nt := by
  intro box nb
  refine sB Tryz.func212 Tryz.ntmps212 ?_
  intro hbox htok
  simp only at hbox htok
  apply AL.start
  try (simp)
  repeat (refine sR ?_; simp)
  refine sN ?_
  refine AL.loopT (stLi l n nb box tok nt) (fun i => i ≤ l.length ∧ firstE (ascAt l n) i = 0) (fun i => l.length - i) 0 ⟨Nat.zero_le _, rfl⟩ (Weaks.mk (Nat.le_refl _) rfl (by simp [ToL, lk]) trivial) ?_
  rintro i S ⟨hi, hok⟩ hS
  simp only [stLi] at hS
  subst hS
  have hw := sW (i := i) (by omega)
  have hR : i < l.length → ascAt l n i ≠ 0 → ascE l n = ascAt l n i := fun hlt h0 => firstE_stop hok h0 l.length hlt
  try (simp)
  repeat (refine sR ?_; simp)
  refine sC ?_
  simp
  refine ⟨fun hlt => ?_, fun hge => ?_⟩
  · have hg : l.getD i 0 = l[i] := by simp [hlt]
    have hR := hR hlt
    have hA : ascAt l n i = if l[i] < 0 ∨ n ≤ l[i] then 6 else if 0 < i ∧ l[i] ≤ l.getD (i - 1) 0 then 12 else 0 := by rw [ascAt, hg]
    by_cases hneg : l[i] < 0
    · try (simp [hneg, hlt])
      repeat (refine sR ?_; simp [hneg, hlt])
      refine sC ?_
      simp
      try (simp)
      repeat (refine sR ?_; simp)
      rw [hA, if_pos (.inl hneg)] at hR
      have hR := hR (by decide)
      refine sT ?_
      try simp only [AU]
      refine ⟨by simp, sF hbox htok (fun _ h => h) (Nat.le_refl _) ?_⟩
      simp [packA, hR]
    · by_cases hbig : n ≤ l[i]
      · try (simp [hneg, hlt, hbig])
        repeat (refine sR ?_; simp [hneg, hlt, hbig])
        refine sC ?_
        simp
        try (simp)
        repeat (refine sR ?_; simp)
        rw [hA, if_pos (.inr hbig)] at hR
        have hR := hR (by decide)
        refine sT ?_
        try simp only [AU]
        refine ⟨by simp, sF hbox htok (fun _ h => h) (Nat.le_refl _) ?_⟩
        simp [packA, hR]
      · rw [if_neg (by omega)] at hA
        try (simp [hneg, hlt, hbig])
        repeat (refine sR ?_; simp [hneg, hlt, hbig])
        refine sC ?_
        simp
        by_cases h0 : 0 < i
        · have hw' : IntKind.i64.wrap (↑i - 1) = ((i - 1 : Nat) : Int) := by rw [wrap_in (by omega) (by omega)]; omega
          have hlt' : i - 1 < l.length := by omega
          have hg' : l.getD (i - 1) 0 = l[i - 1] := by simp [hlt']
          rw [hg'] at hA
          try (simp [hlt, h0, hw', hlt'])
          repeat (refine sR ?_; simp [hlt, h0, hw', hlt'])
          by_cases hle : l[i] ≤ l[i - 1]
          · rw [if_pos ⟨h0, hle⟩] at hA
            rw [hA] at hR
            have hR := hR (by decide)
            simp only [hle]
            refine sC ?_
            simp
            try (simp)
            repeat (refine sR ?_; simp)
            refine sT ?_
            try simp only [AU]
            refine ⟨by simp, sF hbox htok (fun _ h => h) (Nat.le_refl _) ?_⟩
            simp [packA, hR]
          · rw [if_neg (by omega)] at hA
            simp only [hle]
            refine sC ?_
            simp
            try (simp [hw])
            repeat (refine sR ?_; simp [hw])
            refine sE ?_
            exact ⟨i + 1, ⟨hlt, by simp only [firstE, hok, hA, ↓reduceIte]⟩, by omega, Weaks.mk (Nat.le_refl _) rfl (by simp [ToL, lk]) trivial⟩
        · rw [if_neg (by omega)] at hA
          try (simp [hlt, h0])
          repeat (refine sR ?_; simp [hlt, h0])
          refine sC ?_
          simp
          try (simp [hw])
          repeat (refine sR ?_; simp [hw])
          refine sE ?_
          exact ⟨i + 1, ⟨hlt, by simp only [firstE, hok, hA, ↓reduceIte]⟩, by omega, Weaks.mk (Nat.le_refl _) rfl (by simp [ToL, lk]) trivial⟩
  · refine sX ?_
    simp only [AU, ↓reduceIte]
    try (simp)
    repeat (refine sR ?_; simp)
    have : i = l.length := by omega
    subst this
    refine sT ?_
    try simp only [AU]
    refine ⟨by simp, sF hbox htok (fun _ h => h) (Nat.le_refl _) ?_⟩
    simp [packA, ascE, hok]
theorem has_c (l : List Int) (v : Int) (hl : l.length ≤ 1000000) (hs : ∀ j i, i < j → j < l.length → l.getD i 0 < l.getD j 0) (tok : Nat → Bool) (nt : Nat) : DCall Tryz.prog 213 [.d (ints l), I v] tok nt (B (decide (v ∈ l))) tok nt := by
  intro box nb
  have h := search_c l v hl hs
  refine sB Tryz.func213 Tryz.ntmps213 ?_
  intro hbox htok
  simp only at hbox htok
  apply AL.start
  try (simp)
  repeat (refine sR ?_; simp)
  refine Stop.of_d (h _ _) ?_
  simp
  try (simp)
  repeat (refine sR ?_; simp)
  refine sT ?_
  try simp only [AU]
  refine ⟨by simp, sF hbox htok (fun _ h => h) (Nat.le_refl _) ?_⟩
  simp [packA]
def stPr (g : Gr) (p : Mo) (nb : Nat) (box : Nat → Option (List (List AV))) (tok : Nat → Bool) (nt : Nat) (i : Nat) : AState :=
  ⟨tl [(30, I i), (29, I p.edges.length), (28, .d (ints p.edges)), (3, .ptr (nb + 3) 0 0), (2, .ptr (nb + 2) 0 0)], lb nb box [(3, [[.d (ints p.nodes), .d (ints p.edges)]]), (2, [[.d (ints g.nodes), .d (AM.edges g.edges)]])], tok, nt⟩
theorem part_c (g : Gr) (p : Mo) (hg : g.Fit) (hv : validG g = 0) (hp : p.Fit) (tok : Nat → Bool) (nt : Nat) : DCall Tryz.prog 155 [g.av, p.av] tok nt (I (rightP g p)) tok nt := by
  intro box nb
  have h1 := list_c p.nodes g.nodes.length hp.n
  have h2 := list_c p.edges g.edges.length hp.e
  refine sB Tryz.func155 Tryz.ntmps155 ?_
  intro hbox htok
  simp only at hbox htok
  apply AL.start
  try (simp)
  repeat (refine sR ?_; simp)
  refine Stop.of_d (h1 _ _) ?_
  simp
  try (simp)
  repeat (refine sR ?_; simp)
  by_cases e1 : ascE p.nodes g.nodes.length = 0
  · simp only [e1]
    refine sC ?_
    simp
    try (simp)
    repeat (refine sR ?_; simp)
    refine Stop.of_d (h2 _ _) ?_
    simp
    try (simp)
    repeat (refine sR ?_; simp)
    by_cases e2 : ascE p.edges g.edges.length = 0
    · simp only [e2]
      refine sC ?_
      simp
      try (simp)
      repeat (refine sR ?_; simp)
      refine sN ?_
      have re := asc_rng e2
      refine AL.loopT (stPr g p nb box tok nt) (fun i => i ≤ p.edges.length ∧ firstE (dangAt g p) i = 0) (fun i => p.edges.length - i) 0 ⟨Nat.zero_le _, rfl⟩ (Weaks.mk (Nat.le_refl _) rfl (by simp [ToL, lk]) (by simp [BoxL, lk])) ?_
      rintro i S ⟨hi, hok⟩ hS
      simp only [stPr] at hS
      subst hS
      have hpe := hp.e
      have hw := sW (i := i) (by omega)
      have hR : i < p.edges.length → dangAt g p i ≠ 0 → rightP g p = dangAt g p i := fun hlt h0 => by
        have := firstE_stop hok h0 p.edges.length hlt
        simp [rightP, e1, e2, this]
      try (simp)
      repeat (refine sR ?_; simp)
      refine sC ?_
      simp
      refine ⟨fun hlt => ?_, fun hge => ?_⟩
      · have hR := hR hlt
        obtain ⟨r1, r2⟩ := re _ (List.getElem_mem hlt)
        have r3 : p.edges[i].toNat < g.edges.length := by omega
        have hD : dangAt g p i = if g.edges[p.edges[i].toNat].fr ∈ p.nodes ∧ g.edges[p.edges[i].toNat].to ∈ p.nodes then 0 else 14 := by
          have q1 : p.edges.getD i 0 = p.edges[i] := by simp [hlt]
          have q2 : g.edges.getD p.edges[i].toNat default = g.edges[p.edges[i].toNat] := by simp [r3]
          rw [dangAt, q1, q2]
        have hh := fun v => has_c p.nodes v hp.n (asc_lt e1)
        try (simp [hlt, r1, r2, r3])
        repeat (refine sR ?_; simp [hlt, r1, r2, r3])
        refine Stop.of_d (hh _ _ _) ?_
        simp
        by_cases h1 : g.edges[p.edges[i].toNat].fr ∈ p.nodes
        · simp only [h1]
          try (simp [hlt, r1, r2, r3])
          repeat (refine sR ?_; simp [hlt, r1, r2, r3])
          refine Stop.of_d (hh _ _ _) ?_
          simp
          by_cases h2 : g.edges[p.edges[i].toNat].to ∈ p.nodes
          · rw [if_pos ⟨h1, h2⟩] at hD
            simp only [h2]
            try (simp)
            repeat (refine sR ?_; simp)
            refine sC ?_
            simp
            try (simp [hw])
            repeat (refine sR ?_; simp [hw])
            refine sE ?_
            exact ⟨i + 1, ⟨hlt, by simp only [firstE, hok, hD, ↓reduceIte]⟩, by omega, Weaks.mk (Nat.le_refl _) rfl (by simp [ToL, lk]) (by simp [BoxL, lk])⟩
          · rw [if_neg (fun h => h2 h.2)] at hD
            rw [hD] at hR
            have hR := hR (by decide)
            simp only [h2]
            try (simp)
            repeat (refine sR ?_; simp)
            refine sC ?_
            simp
            try (simp)
            repeat (refine sR ?_; simp)
            refine sT ?_
            try simp only [AU]
            refine ⟨by simp, sF hbox htok (fun _ h => h) (Nat.le_refl _) ?_⟩
            simp [packA, hR]
        · rw [if_neg (fun h => h1 h.1)] at hD
          rw [hD] at hR
          have hR := hR (by decide)
          simp only [h1]
          try (simp)
          repeat (refine sR ?_; simp)
          refine sC ?_
          simp
          try (simp)
          repeat (refine sR ?_; simp)
          refine sT ?_
          try simp only [AU]
          refine ⟨by simp, sF hbox htok (fun _ h => h) (Nat.le_refl _) ?_⟩
          simp [packA, hR]
      · refine sX ?_
        simp only [AU, ↓reduceIte]
        try (simp)
        repeat (refine sR ?_; simp)
        have : i = p.edges.length := by omega
        subst this
        refine sT ?_
        try simp only [AU]
        refine ⟨by simp, sF hbox htok (fun _ h => h) (Nat.le_refl _) ?_⟩
        simp [packA, rightP, e1, e2, hok]
    · have b2 : (ascE p.edges g.edges.length != 0) = true := by simp [e2]
      simp only [b2]
      refine sC ?_
      simp
      try (simp)
      repeat (refine sR ?_; simp)
      refine sT ?_
      try simp only [AU]
      refine ⟨by simp, sF hbox htok (fun _ h => h) (Nat.le_refl _) ?_⟩
      simp [packA, rightP, e1, e2]
  · have b1 : (ascE p.nodes g.nodes.length != 0) = true := by simp [e1]
    simp only [b1]
    refine sC ?_
    simp
    try (simp)
    repeat (refine sR ?_; simp)
    refine sT ?_
    try simp only [AU]
    refine ⟨by simp, sF hbox htok (fun _ h => h) (Nat.le_refl _) ?_⟩
    simp [packA, rightP, e1]
theorem validP_c (g : Gr) (p : Mo) (hg : g.Fit) (hp : p.Fit) (tok : Nat → Bool) (nt : Nat) : DCall Tryz.prog 91 [g.av, p.av] tok nt (I (validP g p)) tok nt := by
  intro box nb
  have h1 := graphValid_c g hg
  have h2 := fun h => part_c g p hg h hp
  refine sB Tryz.func91 Tryz.ntmps91 ?_
  intro hbox htok
  simp only at hbox htok
  apply AL.start
  try (simp)
  repeat (refine sR ?_; simp)
  refine Stop.of_d (h1 _ _) ?_
  simp
  try (simp)
  repeat (refine sR ?_; simp)
  by_cases e1 : validG g = 0
  · simp only [e1]
    refine sC ?_
    simp
    try (simp)
    repeat (refine sR ?_; simp)
    refine Stop.of_d (h2 e1 _ _) ?_
    simp
    try (simp)
    repeat (refine sR ?_; simp)
    refine sT ?_
    try simp only [AU]
    refine ⟨by simp, sF hbox htok (fun _ h => h) (Nat.le_refl _) ?_⟩
    simp [packA, validP, e1]
  · have b1 : (validG g != 0) = true := by simp [e1]
    simp only [b1]
    refine sC ?_
    simp
    try (simp)
    repeat (refine sR ?_; simp)
    refine sT ?_
    try simp only [AU]
    refine ⟨by simp, sF hbox htok (fun _ h => h) (Nat.le_refl _) ?_⟩
    simp [packA, validP, e1]
def stPx1 (g : Gr) (p : Mo) (nb : Nat) (box : Nat → Option (List (List AV))) (x : Acc) : AState :=
  ⟨tl [(25, I x.i), (24, I p.nodes.length), (23, .d (ints p.nodes)), (8, .ptr (nb + 8) 0 0), (5, .ptr (nb + 5) 0 0), (4, .ptr (nb + 4) 0 0), (3, .ptr (nb + 3) 0 0), (2, .ptr (nb + 2) 0 0)],
    lb nb box [(8, [[.osl 1 (rI (exN07 g p x.i)) x.own, .osl 0 [] .full]]), (3, [[.d (ints p.nodes), .d (ints p.edges)]]), (2, [[.d (ints g.nodes), .d (AM.edges g.edges)]]), (5, [[nilS, nilS]]), (4, [[nilS, nilS]])], x.tok, x.nt⟩
def stPx2 (g : Gr) (p : Mo) (own1 : Own) (nb : Nat) (box : Nat → Option (List (List AV))) (x : Acc) : AState :=
  ⟨tl [(43, I x.i), (42, I p.edges.length), (41, .d (ints p.edges)), (8, .ptr (nb + 8) 0 0), (5, .ptr (nb + 5) 0 0), (4, .ptr (nb + 4) 0 0), (3, .ptr (nb + 3) 0 0), (2, .ptr (nb + 2) 0 0)],
    lb nb box [(8, [[.d (ints (exN07 g p p.nodes.length)), .osl 3 (rE (exE07 g p x.i)) x.own]]), (3, [[.d (ints p.nodes), .d (ints p.edges)]]), (2, [[.d (ints g.nodes), .d (AM.edges g.edges)]]), (5, [[nilS, nilS]]), (4, [[nilS, nilS]])], x.tok, x.nt⟩
theorem extractP_c (g : Gr) (p : Mo) (hg : g.Fit) (hp : p.Fit) (h : VP g p) (tok : Nat → Bool) (nt : Nat) : DCall Tryz.prog 92 [g.av, p.av] tok nt (.tup [(exG g p).av, p.av, I 0]) tok nt := by
  intro box nb
  have h1 := validP_c g p hg hp
  rw [h.v] at h1
  refine sB Tryz.func92 Tryz.ntmps92 ?_
  intro hbox htok
  simp only at hbox htok
  apply AL.start
  try (simp)
  repeat (refine sR ?_; simp)
  refine Stop.of_d (h1 _ _) ?_
  simp
  try (simp)
  repeat (refine sR ?_; simp)
  refine sC ?_
  simp
  try (simp)
  repeat (refine sR ?_; simp)
  refine sN ?_
  have hpn := hp.n
  have hpe := hp.e
  refine AL.loopT (stPx1 g p nb box) (fun x => x.i ≤ p.nodes.length ∧ TK tok nt x.tok x.nt [x.own]) (fun x => p.nodes.length - x.i) ⟨0, .full, tok, nt⟩ ⟨Nat.zero_le _, (TK.start htok).full⟩ (Weaks.mk (Nat.le_refl _) rfl (by simp [ToL, lk]) (by simp [BoxL, lk, exN07_zero])) ?_
  rintro ⟨i, own, tok', nt'⟩ S ⟨hi, htk⟩ hS
  simp only [stPx1] at hS hi htk
  subst hS
  have hw := sW (i := i) (by omega)
  try (simp)
  repeat (refine sR ?_; simp)
  refine sC ?_
  simp
  refine ⟨fun hlt => ?_, fun hge => ?_⟩
  · obtain ⟨r1, r2⟩ := h.n _ (List.getElem_mem hlt)
    have r3 : p.nodes[i].toNat < g.nodes.length := by omega
    try (simp [hlt, r1, r2, r3])
    repeat (refine sR ?_; simp [hlt, r1, r2, r3])
    refine ⟨⟨by have := exN07_len g p i; omega, htk.live⟩, ?_⟩
    try (simp [hw])
    repeat (refine sR ?_; simp [hw])
    refine sE ?_
    exact ⟨⟨i + 1, _, _, _⟩, ⟨hlt, htk.app⟩, by simp only; omega, Weaks.mk htk.app.le rfl (by simp [ToL, lk]) (by simp [BoxL, lk, exN07_succ g p hlt, r3])⟩
  · refine sX ?_
    simp only [AU, ↓reduceIte]
    have : i = p.nodes.length := by omega
    subst this
    try (simp)
    repeat (refine sR ?_; simp)
    refine sN ?_
    refine AL.loopT (stPx2 g p own nb box) (fun x => x.i ≤ p.edges.length ∧ TK tok nt x.tok x.nt [x.own]) (fun x => p.edges.length - x.i) ⟨0, .full, tok', nt'⟩ ⟨Nat.zero_le _, htk.tail.full⟩ (Weaks.mk htk.le rfl (by simp [ToL, lk]) (by simp [BoxL, lk, exE07_zero])) ?_
    rintro ⟨i, own2, tok2, nt2⟩ S ⟨hi, htk2⟩ hS
    simp only [stPx2] at hS hi htk2
    subst hS
    have hw := sW (i := i) (by omega)
    have hh := fun v => search_c p.nodes v hp.n h.sn
    try (simp)
    repeat (refine sR ?_; simp)
    refine sC ?_
    simp
    refine ⟨fun hlt => ?_, fun hge => ?_⟩
    · obtain ⟨r1, r2⟩ := h.e _ (List.getElem_mem hlt)
      have r3 : p.edges[i].toNat < g.edges.length := by omega
      have hE : exE1 g p p.edges[i] = ⟨g.edges[p.edges[i].toNat].ty, indexI p.nodes g.edges[p.edges[i].toNat].fr, indexI p.nodes g.edges[p.edges[i].toNat].to⟩ := by
        have q2 : g.edges.getD p.edges[i].toNat default = g.edges[p.edges[i].toNat] := by simp [r3]
        rw [exE1, q2]
      have hsucc := exE07_succ g p hlt
      rw [hE] at hsucc
      have hcc := h.c _ (List.getElem_mem hlt)
      have q3 : g.edges.getD p.edges[i].toNat default = g.edges[p.edges[i].toNat] := by simp [r3]
      rw [q3] at hcc
      have hh1 := hh g.edges[p.edges[i].toNat].fr
      have hh2 := hh g.edges[p.edges[i].toNat].to
      rw [lowI_index h.sn hcc.1] at hh1
      rw [lowI_index h.sn hcc.2] at hh2
      refine sR ?_
      simp [hlt]
      refine sR ?_
      simp [r1, r2, r3]
      generalize g.edges[p.edges[i].toNat] = x at *
      try (simp)
      repeat (refine sR ?_; simp)
      refine Stop.of_d (hh1 _ _) ?_
      simp
      try (simp)
      repeat (refine sR ?_; simp)
      refine Stop.of_d (hh2 _ _) ?_
      simp
      try (simp)
      repeat (refine sR ?_; simp)
      refine ⟨⟨by have := exE07_len g p i; omega, htk2.live⟩, ?_⟩
      try (simp [hw])
      repeat (refine sR ?_; simp [hw])
      refine sE ?_
      exact ⟨⟨i + 1, _, _, _⟩, ⟨hlt, htk2.app⟩, by simp only; omega, Weaks.mk htk2.app.le rfl (by simp [ToL, lk]) (by simp [BoxL, lk, hsucc])⟩
    · refine sX ?_
      simp only [AU, ↓reduceIte]
      have : i = p.edges.length := by omega
      subst this
      have c1 := clone_c p.nodes hp.n
      have c2 := clone_c p.edges hp.e
      try (simp)
      repeat (refine sR ?_; simp)
      refine Stop.of_d (c1 _ _) ?_
      simp
      try (simp)
      repeat (refine sR ?_; simp)
      refine Stop.of_d (c2 _ _) ?_
      simp
      have htk3 := htk2.full.app.full.app
      try (simp)
      repeat (refine sR ?_; simp)
      refine sT ?_
      try simp only [AU]
      refine ⟨by simp, sF hbox htok htk3.old htk3.le ?_⟩
      simp [packA, exG_07]
end Go.AM
namespace Go.AM
open Go Go.Proofs
structure At where
  name : ByteArray
  lo : Int
  hi : Int
  names : List ByteArray
structure NT where
  name : ByteArray
  par : Int
  abs : Bool
  own : List At
structure ET where
  name : ByteArray
  fr : Int
  to : Int
  ol : Int
  oh : Int
  il : Int
  ih : Int
structure Ty where
  nodes : List NT
  edges : List ET
abbrev At.cells (a : At) : List D := [.raw (.string a.name), .raw (.int .i64 a.lo), .raw (.int .i64 a.hi), strs a.names]
abbrev atts (l : List At) : D := .sl 4 (l.map At.cells)
abbrev NT.cells (n : NT) : List D := [.raw (.string n.name), .raw (.int .i64 n.par), .raw (.bool n.abs), atts n.own]
abbrev ET.cells (e : ET) : List D := [.raw (.string e.name), .raw (.int .i64 e.fr), .raw (.int .i64 e.to), .raw (.int .i64 e.ol), .raw (.int .i64 e.oh), .raw (.int .i64 e.il), .raw (.int .i64 e.ih)]
abbrev nts (l : List NT) : D := .sl 4 (l.map NT.cells)
abbrev ets (l : List ET) : D := .sl 7 (l.map ET.cells)
abbrev Ty.av (t : Ty) : AV := .agg [.d (nts t.nodes), .d (ets t.edges)]
instance : Inhabited ByteArray := ⟨⟨#[]⟩⟩
abbrev eB : ByteArray := ⟨#[]⟩
def nmsAt (l : List ByteArray) (i : Nat) : Int := if nameB (l.getD i eB) = false then 2 else if memS (l.take i) (l.getD i eB) = true then 5 else 0
def nmsE (l : List ByteArray) : Int := if 20 < l.length then 3 else firstE (nmsAt l) l.length
structure NmFit (l : List ByteArray) : Prop where
  n : l.length ≤ 1000000
  s : ∀ x ∈ l, x.size ≤ 1000000000000
theorem strs_take (l : List ByteArray) (i : Nat) : strs (l.take i) = .sl 1 (List.take i (l.map fun s => [D.raw (.string s)])) := by rw [strs, List.map_take]
def stNm (l : List ByteArray) (nb : Nat) (box : Nat → Option (List (List AV))) (tok : Nat → Bool) (nt : Nat) (i : Nat) : AState := ⟨tl [(10, I i), (9, I l.length), (8, .d (strs l)), (0, .d (strs l))], lb nb box [], tok, nt⟩
theorem names_c (l : List ByteArray) (hl : NmFit l) (tok : Nat → Bool) (nt : Nat) : DCall Tryz.prog 233 [.d (strs l)] tok nt (I (nmsE l)) tok nt := by
  intro box nb
  have hln := hl.n
  by_cases h20 : 20 < l.length
  · have h20' : (20 : Int) < l.length := by omega
    rw [show nmsE l = 3 from if_pos h20]
    refine sB Tryz.func233 Tryz.ntmps233 ?_
    intro hbox htok
    simp only at hbox htok
    apply AL.start
    try (simp [h20'])
    repeat (refine sR ?_; simp [h20'])
    refine sC ?_
    simp
    try (simp)
    repeat (refine sR ?_; simp)
    refine sT ?_
    try simp only [AU]
    refine ⟨by simp, sF hbox htok (fun _ h => h) (Nat.le_refl _) ?_⟩
    simp [packA]
  · have h20' : ¬ (20 : Int) < l.length := by omega
    have hE : nmsE l = firstE (nmsAt l) l.length := if_neg h20
    refine sB Tryz.func233 Tryz.ntmps233 ?_
    intro hbox htok
    simp only at hbox htok
    apply AL.start
    try (simp [h20'])
    repeat (refine sR ?_; simp [h20'])
    refine sC ?_
    simp
    try (simp)
    repeat (refine sR ?_; simp)
    refine sN ?_
    refine AL.loopT (stNm l nb box tok nt) (fun i => i ≤ l.length ∧ firstE (nmsAt l) i = 0) (fun i => l.length - i) 0 ⟨Nat.zero_le _, rfl⟩ (Weaks.mk (Nat.le_refl _) rfl (by simp [ToL, lk]) trivial) ?_
    rintro i S' ⟨hi, hok⟩ hS
    simp only [stNm] at hS
    subst hS
    have hw := sW (i := i) (by omega)
    have hR : i < l.length → nmsAt l i ≠ 0 → firstE (nmsAt l) l.length = nmsAt l i := fun hlt h0 => firstE_stop hok h0 l.length hlt
    try (simp)
    repeat (refine sR ?_; simp)
    refine sC ?_
    simp
    refine ⟨fun hlt => ?_, fun hge => ?_⟩
    · have hg : l.getD i eB = l[i] := by simp [hlt]
      have hA : nmsAt l i = if nameB l[i] = false then 2 else if memS (l.take i) l[i] = true then 5 else 0 := by rw [nmsAt, hg]
      have hn := isName_c l[i] (hl.s _ (List.getElem_mem hlt))
      have hc := containsS_c (l.take i) l[i] (by simp; omega)
      have hR := hR hlt
      try (simp [hlt, strs_at hlt])
      repeat (refine sR ?_; simp [hlt, strs_at hlt])
      refine Stop.of_d (hn _ _) ?_
      simp
      cases e1 : nameB l[i]
      · rw [e1, if_pos rfl] at hA
        rw [hA] at hR
        have hR := hR (by decide)
        try (simp)
        repeat (refine sR ?_; simp)
        refine sC ?_
        simp
        try (simp)
        repeat (refine sR ?_; simp)
        refine sT ?_
        try simp only [AU]
        refine ⟨by simp, sF hbox htok (fun _ h => h) (Nat.le_refl _) ?_⟩
        simp [packA, hE, hR]
      · rw [e1, if_neg (by simp)] at hA
        try (simp)
        repeat (refine sR ?_; simp)
        refine sC ?_
        simp
        try (simp)
        repeat (refine sR ?_; simp)
        refine ⟨by omega, ?_⟩
        rw [strs_take] at hc
        refine Stop.of_d (hc _ _) ?_
        simp
        cases e2 : memS (l.take i) l[i]
        · rw [e2, if_neg (by simp)] at hA
          try (simp)
          repeat (refine sR ?_; simp)
          refine sC ?_
          simp
          try (simp [hw])
          repeat (refine sR ?_; simp [hw])
          refine sE ?_
          exact ⟨i + 1, ⟨hlt, by simp only [firstE, hok, hA, ↓reduceIte]⟩, by omega, Weaks.mk (Nat.le_refl _) rfl (by simp [ToL, lk]) trivial⟩
        · rw [e2, if_pos rfl] at hA
          rw [hA] at hR
          have hR := hR (by decide)
          try (simp)
          repeat (refine sR ?_; simp)
          refine sC ?_
          simp
          try (simp)
          repeat (refine sR ?_; simp)
          refine sT ?_
          try simp only [AU]
          refine ⟨by simp, sF hbox htok (fun _ h => h) (Nat.le_refl _) ?_⟩
          simp [packA, hE, hR]
    · refine sX ?_
      simp only [AU, ↓reduceIte]
      try (simp)
      repeat (refine sR ?_; simp)
      have : i = l.length := by omega
      subst this
      refine sT ?_
      try simp only [AU]
      refine ⟨by simp, sF hbox htok (fun _ h => h) (Nat.le_refl _) ?_⟩
      simp [packA, hE, hok]
end Go.AM
namespace Go.AM
open Go Go.Proofs
abbrev At.av (a : At) : AV := .agg [Sb a.name, I a.lo, I a.hi, .d (strs a.names)]
abbrev NT.av (n : NT) : AV := .agg [Sb n.name, I n.par, B n.abs, .d (atts n.own)]
abbrev ET.av (e : ET) : AV := .agg [Sb e.name, I e.fr, I e.to, I e.ol, I e.oh, I e.il, I e.ih]
theorem any_takeG {α : Type} {p : α → Bool} {xs : List α} {i : Nat} (h : i < xs.length) (h1 : ∀ x ∈ xs.take i, p x = false) (h2 : p xs[i] = true) : anyB p xs = true ∧ xs.findIdx p = i := by
  refine ⟨List.any_eq_true.2 ⟨_, List.getElem_mem h, h2⟩, ?_⟩
  rw [List.findIdx_eq h]
  refine ⟨h2, fun j hj => ?_⟩
  have := h1 xs[j] (by
    rw [List.mem_take_iff_getElem]
    exact ⟨j, by omega, rfl⟩)
  simpa using this
def stIA (xs : List At) (f : FuncId) (caps : List AV) (nb : Nat) (box : Nat → Option (List (List AV))) (tok : Nat → Bool) (nt : Nat) (i : Nat) : AState := ⟨tl [(0, .d (atts xs)), (1, .fn (.func f) caps), (7, I xs.length), (8, I i)], lb nb box [], tok, nt⟩
theorem indexFuncA_c (xs : List At) (f : FuncId) (caps : List AV) (p : At → Bool) (hx : xs.length ≤ 1000000) (box : Nat → Option (List (List AV))) (nb : Nat) (tok : Nat → Bool) (nt : Nat) (hc : ∀ c ∈ caps, OkIn (fun k => box k ≠ none) (fun _ => True) c)
    (hf : ∀ x ∈ xs, ∀ box' nb', Ext box box' → ACalls Tryz.prog f (x.av :: caps) ⟨box', nb', tok, nt⟩ fun v m => v = B (p x) ∧ m = ⟨box', nb', tok, nt⟩) :
    ACalls Tryz.prog 260 [.d (atts xs), .fn (.func f) caps] ⟨box, nb, tok, nt⟩ fun v m => v = I (if anyB p xs = true then (xs.findIdx p : Nat) else -1) ∧ m = ⟨box, nb, tok, nt⟩ := by
  refine sB Tryz.func260 Tryz.ntmps260 ?_
  intro hbox htok
  simp only at hbox htok
  apply AL.start
  try (simp)
  repeat (refine sR ?_; simp)
  refine sN ?_
  refine AL.loopT (stIA xs f caps nb box tok nt) (fun i => i ≤ xs.length ∧ ∀ x ∈ xs.take i, p x = false) (fun i => xs.length - i) 0 ⟨Nat.zero_le _, by simp⟩ (Weaks.mk (Nat.le_refl _) rfl (by simp [ToL]; exact .same (okFn hc hbox [] (by simp) rfl _)) trivial) ?_
  rintro i S' ⟨hi, htk⟩ hS
  simp only [stIA] at hS
  subst hS
  have hw := sW (i := i) (by omega)
  try (simp)
  repeat (refine sR ?_; simp)
  refine sC ?_
  simp
  refine ⟨fun hlt => ?_, fun hge => ?_⟩
  · have hfx := hf xs[i] (List.getElem_mem _)
    have hpx : p xs[i] = true → anyB p xs = true ∧ (xs.findIdx p = i) := fun he => any_takeG hlt htk he
    have hmore : p xs[i] = false → ∀ x ∈ xs.take (i + 1), p x = false := fun he x hx => by
      rw [List.take_succ_eq_append_getElem hlt] at hx
      rcases List.mem_append.1 hx with hx | hx
      · exact htk x hx
      · simp at hx; rw [hx]; exact he
    try (simp [hlt])
    repeat (refine sR ?_; simp [hlt])
    generalize xs[i] = x at *
    refine Stop.of_b (hfx _ _ ((Ext.refl box).lb hbox [])) ?_
    simp
    cases he : p x
    · refine sC ?_
      simp
      try (simp [hw])
      repeat (refine sR ?_; simp [hw])
      refine sE ?_
      refine ⟨i + 1, ⟨hlt, ?_⟩, by omega, Weaks.mk (Nat.le_refl _) rfl (by simp [ToL]; exact .same (okFn hc hbox [] (by simp) rfl _)) trivial⟩
      exact hmore he
    · obtain ⟨h1, h2⟩ := hpx he
      refine sC ?_
      simp
      try (simp)
      repeat (refine sR ?_; simp)
      refine sT ?_
      try simp only [AU]
      refine ⟨by simp, sF hbox htok (fun _ h => h) (Nat.le_refl _) ?_⟩
      simp [packA, h1, h2]
  · have hn : anyB p xs = false := by
      rw [List.take_of_length_le hge] at htk
      simpa [anyB] using htk
    refine sX ?_
    simp only [AU, ↓reduceIte]
    try (simp)
    repeat (refine sR ?_; simp)
    refine sT ?_
    try simp only [AU]
    refine ⟨by simp, sF hbox htok (fun _ h => h) (Nat.le_refl _) ?_⟩
    simp [packA, hn]
theorem containsFuncA_c (xs : List At) (f : FuncId) (caps : List AV) (p : At → Bool) (hx : xs.length ≤ 1000000) (box : Nat → Option (List (List AV))) (nb : Nat) (tok : Nat → Bool) (nt : Nat) (hc : ∀ c ∈ caps, OkIn (fun k => box k ≠ none) (fun _ => True) c)
    (hf : ∀ x ∈ xs, ∀ box' nb', Ext box box' → ACalls Tryz.prog f (x.av :: caps) ⟨box', nb', tok, nt⟩ fun v m => v = B (p x) ∧ m = ⟨box', nb', tok, nt⟩) :
    ACalls Tryz.prog 231 [.d (atts xs), .fn (.func f) caps] ⟨box, nb, tok, nt⟩ fun v m => v = B (anyB p xs) ∧ m = ⟨box, nb, tok, nt⟩ := by
  obtain ⟨A, hany⟩ : ∃ A, anyB p xs = A := ⟨_, rfl⟩
  have hi := fun b nb' h1 h2 => indexFuncA_c xs f caps p hx b nb' tok nt h1 h2
  rw [hany]
  simp only [hany] at hi
  refine sB Tryz.func231 Tryz.ntmps231 ?_
  intro hbox htok
  simp only at hbox htok
  apply AL.start
  try (simp)
  repeat (refine sR ?_; simp)
  refine Stop.of_b (hi (lb nb box []) _ (fun c h => (hc c h).mono (fun k hk => by rw [hbox]; exact hk) fun _ h => h) (fun x hx' box' nb' he => hf x hx' box' nb' (by rw [hbox] at he; exact he))) ?_
  simp
  cases A
  · try (simp)
    repeat (refine sR ?_; simp)
    refine sT ?_
    try simp only [AU]
    refine ⟨by simp, sF hbox htok (fun _ h => h) (Nat.le_refl _) ?_⟩
    simp [packA]
  · have h0 : (0 : Int) ≤ (xs.findIdx p : Nat) := by omega
    try (simp)
    repeat (refine sR ?_; simp)
    refine sT ?_
    try simp only [AU]
    refine ⟨by simp, sF hbox htok (fun _ h => h) (Nat.le_refl _) ?_⟩
    simp [packA, h0]
def stIN (xs : List NT) (f : FuncId) (caps : List AV) (nb : Nat) (box : Nat → Option (List (List AV))) (tok : Nat → Bool) (nt : Nat) (i : Nat) : AState := ⟨tl [(0, .d (nts xs)), (1, .fn (.func f) caps), (7, I xs.length), (8, I i)], lb nb box [], tok, nt⟩
theorem indexFuncN_c (xs : List NT) (f : FuncId) (caps : List AV) (p : NT → Bool) (hx : xs.length ≤ 1000000) (box : Nat → Option (List (List AV))) (nb : Nat) (tok : Nat → Bool) (nt : Nat) (hc : ∀ c ∈ caps, OkIn (fun k => box k ≠ none) (fun _ => True) c)
    (hf : ∀ x ∈ xs, ∀ box' nb', Ext box box' → ACalls Tryz.prog f (x.av :: caps) ⟨box', nb', tok, nt⟩ fun v m => v = B (p x) ∧ m = ⟨box', nb', tok, nt⟩) :
    ACalls Tryz.prog 223 [.d (nts xs), .fn (.func f) caps] ⟨box, nb, tok, nt⟩ fun v m => v = I (if anyB p xs = true then (xs.findIdx p : Nat) else -1) ∧ m = ⟨box, nb, tok, nt⟩ := by
  refine sB Tryz.func223 Tryz.ntmps223 ?_
  intro hbox htok
  simp only at hbox htok
  apply AL.start
  try (simp)
  repeat (refine sR ?_; simp)
  refine sN ?_
  refine AL.loopT (stIN xs f caps nb box tok nt) (fun i => i ≤ xs.length ∧ ∀ x ∈ xs.take i, p x = false) (fun i => xs.length - i) 0 ⟨Nat.zero_le _, by simp⟩ (Weaks.mk (Nat.le_refl _) rfl (by simp [ToL]; exact .same (okFn hc hbox [] (by simp) rfl _)) trivial) ?_
  rintro i S' ⟨hi, htk⟩ hS
  simp only [stIN] at hS
  subst hS
  have hw := sW (i := i) (by omega)
  try (simp)
  repeat (refine sR ?_; simp)
  refine sC ?_
  simp
  refine ⟨fun hlt => ?_, fun hge => ?_⟩
  · have hfx := hf xs[i] (List.getElem_mem _)
    have hpx : p xs[i] = true → anyB p xs = true ∧ (xs.findIdx p = i) := fun he => any_takeG hlt htk he
    have hmore : p xs[i] = false → ∀ x ∈ xs.take (i + 1), p x = false := fun he x hx => by
      rw [List.take_succ_eq_append_getElem hlt] at hx
      rcases List.mem_append.1 hx with hx | hx
      · exact htk x hx
      · simp at hx; rw [hx]; exact he
    try (simp [hlt])
    repeat (refine sR ?_; simp [hlt])
    generalize xs[i] = x at *
    refine Stop.of_b (hfx _ _ ((Ext.refl box).lb hbox [])) ?_
    simp
    cases he : p x
    · refine sC ?_
      simp
      try (simp [hw])
      repeat (refine sR ?_; simp [hw])
      refine sE ?_
      refine ⟨i + 1, ⟨hlt, ?_⟩, by omega, Weaks.mk (Nat.le_refl _) rfl (by simp [ToL]; exact .same (okFn hc hbox [] (by simp) rfl _)) trivial⟩
      exact hmore he
    · obtain ⟨h1, h2⟩ := hpx he
      refine sC ?_
      simp
      try (simp)
      repeat (refine sR ?_; simp)
      refine sT ?_
      try simp only [AU]
      refine ⟨by simp, sF hbox htok (fun _ h => h) (Nat.le_refl _) ?_⟩
      simp [packA, h1, h2]
  · have hn : anyB p xs = false := by
      rw [List.take_of_length_le hge] at htk
      simpa [anyB] using htk
    refine sX ?_
    simp only [AU, ↓reduceIte]
    try (simp)
    repeat (refine sR ?_; simp)
    refine sT ?_
    try simp only [AU]
    refine ⟨by simp, sF hbox htok (fun _ h => h) (Nat.le_refl _) ?_⟩
    simp [packA, hn]
theorem containsFuncN_c (xs : List NT) (f : FuncId) (caps : List AV) (p : NT → Bool) (hx : xs.length ≤ 1000000) (box : Nat → Option (List (List AV))) (nb : Nat) (tok : Nat → Bool) (nt : Nat) (hc : ∀ c ∈ caps, OkIn (fun k => box k ≠ none) (fun _ => True) c)
    (hf : ∀ x ∈ xs, ∀ box' nb', Ext box box' → ACalls Tryz.prog f (x.av :: caps) ⟨box', nb', tok, nt⟩ fun v m => v = B (p x) ∧ m = ⟨box', nb', tok, nt⟩) :
    ACalls Tryz.prog 170 [.d (nts xs), .fn (.func f) caps] ⟨box, nb, tok, nt⟩ fun v m => v = B (anyB p xs) ∧ m = ⟨box, nb, tok, nt⟩ := by
  obtain ⟨A, hany⟩ : ∃ A, anyB p xs = A := ⟨_, rfl⟩
  have hi := fun b nb' h1 h2 => indexFuncN_c xs f caps p hx b nb' tok nt h1 h2
  rw [hany]
  simp only [hany] at hi
  refine sB Tryz.func170 Tryz.ntmps170 ?_
  intro hbox htok
  simp only at hbox htok
  apply AL.start
  try (simp)
  repeat (refine sR ?_; simp)
  refine Stop.of_b (hi (lb nb box []) _ (fun c h => (hc c h).mono (fun k hk => by rw [hbox]; exact hk) fun _ h => h) (fun x hx' box' nb' he => hf x hx' box' nb' (by rw [hbox] at he; exact he))) ?_
  simp
  cases A
  · try (simp)
    repeat (refine sR ?_; simp)
    refine sT ?_
    try simp only [AU]
    refine ⟨by simp, sF hbox htok (fun _ h => h) (Nat.le_refl _) ?_⟩
    simp [packA]
  · have h0 : (0 : Int) ≤ (xs.findIdx p : Nat) := by omega
    try (simp)
    repeat (refine sR ?_; simp)
    refine sT ?_
    try simp only [AU]
    refine ⟨by simp, sF hbox htok (fun _ h => h) (Nat.le_refl _) ?_⟩
    simp [packA, h0]
def stIE2 (xs : List ET) (f : FuncId) (caps : List AV) (nb : Nat) (box : Nat → Option (List (List AV))) (tok : Nat → Bool) (nt : Nat) (i : Nat) : AState := ⟨tl [(0, .d (ets xs)), (1, .fn (.func f) caps), (7, I xs.length), (8, I i)], lb nb box [], tok, nt⟩
theorem indexFuncE2_c (xs : List ET) (f : FuncId) (caps : List AV) (p : ET → Bool) (hx : xs.length ≤ 1000000) (box : Nat → Option (List (List AV))) (nb : Nat) (tok : Nat → Bool) (nt : Nat) (hc : ∀ c ∈ caps, OkIn (fun k => box k ≠ none) (fun _ => True) c)
    (hf : ∀ x ∈ xs, ∀ box' nb', Ext box box' → ACalls Tryz.prog f (x.av :: caps) ⟨box', nb', tok, nt⟩ fun v m => v = B (p x) ∧ m = ⟨box', nb', tok, nt⟩) :
    ACalls Tryz.prog 234 [.d (ets xs), .fn (.func f) caps] ⟨box, nb, tok, nt⟩ fun v m => v = I (if anyB p xs = true then (xs.findIdx p : Nat) else -1) ∧ m = ⟨box, nb, tok, nt⟩ := by
  refine sB Tryz.func234 Tryz.ntmps234 ?_
  intro hbox htok
  simp only at hbox htok
  apply AL.start
  try (simp)
  repeat (refine sR ?_; simp)
  refine sN ?_
  refine AL.loopT (stIE2 xs f caps nb box tok nt) (fun i => i ≤ xs.length ∧ ∀ x ∈ xs.take i, p x = false) (fun i => xs.length - i) 0 ⟨Nat.zero_le _, by simp⟩ (Weaks.mk (Nat.le_refl _) rfl (by simp [ToL]; exact .same (okFn hc hbox [] (by simp) rfl _)) trivial) ?_
  rintro i S' ⟨hi, htk⟩ hS
  simp only [stIE2] at hS
  subst hS
  have hw := sW (i := i) (by omega)
  try (simp)
  repeat (refine sR ?_; simp)
  refine sC ?_
  simp
  refine ⟨fun hlt => ?_, fun hge => ?_⟩
  · have hfx := hf xs[i] (List.getElem_mem _)
    have hpx : p xs[i] = true → anyB p xs = true ∧ (xs.findIdx p = i) := fun he => any_takeG hlt htk he
    have hmore : p xs[i] = false → ∀ x ∈ xs.take (i + 1), p x = false := fun he x hx => by
      rw [List.take_succ_eq_append_getElem hlt] at hx
      rcases List.mem_append.1 hx with hx | hx
      · exact htk x hx
      · simp at hx; rw [hx]; exact he
    try (simp [hlt])
    repeat (refine sR ?_; simp [hlt])
    generalize xs[i] = x at *
    refine Stop.of_b (hfx _ _ ((Ext.refl box).lb hbox [])) ?_
    simp
    cases he : p x
    · refine sC ?_
      simp
      try (simp [hw])
      repeat (refine sR ?_; simp [hw])
      refine sE ?_
      refine ⟨i + 1, ⟨hlt, ?_⟩, by omega, Weaks.mk (Nat.le_refl _) rfl (by simp [ToL]; exact .same (okFn hc hbox [] (by simp) rfl _)) trivial⟩
      exact hmore he
    · obtain ⟨h1, h2⟩ := hpx he
      refine sC ?_
      simp
      try (simp)
      repeat (refine sR ?_; simp)
      refine sT ?_
      try simp only [AU]
      refine ⟨by simp, sF hbox htok (fun _ h => h) (Nat.le_refl _) ?_⟩
      simp [packA, h1, h2]
  · have hn : anyB p xs = false := by
      rw [List.take_of_length_le hge] at htk
      simpa [anyB] using htk
    refine sX ?_
    simp only [AU, ↓reduceIte]
    try (simp)
    repeat (refine sR ?_; simp)
    refine sT ?_
    try simp only [AU]
    refine ⟨by simp, sF hbox htok (fun _ h => h) (Nat.le_refl _) ?_⟩
    simp [packA, hn]
theorem containsFuncE2_c (xs : List ET) (f : FuncId) (caps : List AV) (p : ET → Bool) (hx : xs.length ≤ 1000000) (box : Nat → Option (List (List AV))) (nb : Nat) (tok : Nat → Bool) (nt : Nat) (hc : ∀ c ∈ caps, OkIn (fun k => box k ≠ none) (fun _ => True) c)
    (hf : ∀ x ∈ xs, ∀ box' nb', Ext box box' → ACalls Tryz.prog f (x.av :: caps) ⟨box', nb', tok, nt⟩ fun v m => v = B (p x) ∧ m = ⟨box', nb', tok, nt⟩) :
    ACalls Tryz.prog 191 [.d (ets xs), .fn (.func f) caps] ⟨box, nb, tok, nt⟩ fun v m => v = B (anyB p xs) ∧ m = ⟨box, nb, tok, nt⟩ := by
  obtain ⟨A, hany⟩ : ∃ A, anyB p xs = A := ⟨_, rfl⟩
  have hi := fun b nb' h1 h2 => indexFuncE2_c xs f caps p hx b nb' tok nt h1 h2
  rw [hany]
  simp only [hany] at hi
  refine sB Tryz.func191 Tryz.ntmps191 ?_
  intro hbox htok
  simp only at hbox htok
  apply AL.start
  try (simp)
  repeat (refine sR ?_; simp)
  refine Stop.of_b (hi (lb nb box []) _ (fun c h => (hc c h).mono (fun k hk => by rw [hbox]; exact hk) fun _ h => h) (fun x hx' box' nb' he => hf x hx' box' nb' (by rw [hbox] at he; exact he))) ?_
  simp
  cases A
  · try (simp)
    repeat (refine sR ?_; simp)
    refine sT ?_
    try simp only [AU]
    refine ⟨by simp, sF hbox htok (fun _ h => h) (Nat.le_refl _) ?_⟩
    simp [packA]
  · have h0 : (0 : Int) ≤ (xs.findIdx p : Nat) := by omega
    try (simp)
    repeat (refine sR ?_; simp)
    refine sT ?_
    try simp only [AU]
    refine ⟨by simp, sF hbox htok (fun _ h => h) (Nat.le_refl _) ?_⟩
    simp [packA, h0]
end Go.AM
namespace Go.AM
open Go Go.Proofs
abbrev At.row (a : At) : List AV := [Sb a.name, I a.lo, I a.hi, .d (strs a.names)]
theorem attr1_c (x y : At) (box : Nat → Option (List (List AV))) (nb k : Nat) (tok : Nat → Bool) (nt : Nat) (h1 : box k = some [x.row]) :
    ACalls Tryz.prog 232 [y.av, .ptr k 0 0] ⟨box, nb, tok, nt⟩ fun v m => v = B (decide (y.name = x.name)) ∧ m = ⟨box, nb, tok, nt⟩ := by
  refine sB Tryz.func232 Tryz.ntmps232 ?_
  intro hbox htok
  simp only at hbox htok
  apply AL.start
  have k1n := key_lt hbox h1
  rw [← seq_dec]
  try (simp [lb_out k1n, h1])
  repeat (refine sR ?_; simp [lb_out k1n, h1])
  refine sT ?_
  try simp only [AU]
  refine ⟨by simp, sF hbox htok (fun _ h => h) (Nat.le_refl _) ?_⟩
  simp [packA]
def rngA (x : At) : Bool := if x.names.length = 0 then decide (-1000000 ≤ x.lo ∧ x.lo ≤ x.hi ∧ x.hi ≤ 1000000) else decide (x.lo = 0 ∧ x.hi = (x.names.length : Int) - 1)
def attE (x : At) (before : List At) : Int := if nameB x.name = false then 2 else if anyB (fun y => decide (y.name = x.name)) before = true then 5 else if nmsE x.names ≠ 0 then nmsE x.names else if rngA x = true then 0 else 6
structure At.Fit (a : At) : Prop where
  n : a.name.size ≤ 1000000000000
  l : NmFit a.names
theorem attribute_c (x : At) (before : List At) (hx : x.Fit) (hb : before.length ≤ 1000000) (tok : Nat → Bool) (nt : Nat) : DCall Tryz.prog 189 [x.av, .d (atts before)] tok nt (I (attE x before)) tok nt := by
  intro box nb
  have h1 := isName_c x.name hx.n
  have h3 := names_c x.names hx.l
  cases e1 : nameB x.name
  · rw [e1] at h1
    rw [show attE x before = 2 by rw [attE, if_pos e1]]
    refine sB Tryz.func189 Tryz.ntmps189 ?_
    intro hbox htok
    simp only at hbox htok
    apply AL.start
    try (simp)
    repeat (refine sR ?_; simp)
    refine Stop.of_d (h1 _ _) ?_
    simp
    try (simp)
    repeat (refine sR ?_; simp)
    refine sC ?_
    simp
    try (simp)
    repeat (refine sR ?_; simp)
    refine sT ?_
    try simp only [AU]
    refine ⟨by simp, sF hbox htok (fun _ h => h) (Nat.le_refl _) ?_⟩
    simp [packA]
  · rw [e1] at h1
    have hA : attE x before = if anyB (fun y => decide (y.name = x.name)) before = true then 5 else if nmsE x.names ≠ 0 then nmsE x.names else if rngA x = true then 0 else 6 := by rw [attE, if_neg (by simp [e1])]
    obtain ⟨N, hN⟩ : ∃ N, attE x before = N := ⟨_, rfl⟩
    rw [hN] at hA ⊢
    obtain ⟨p, hp⟩ : ∃ p : At → Bool, (fun y => decide (y.name = x.name)) = p := ⟨_, rfl⟩
    have h2 := fun y box nb k h => attr1_c x y box nb k tok nt h
    have hpp : ∀ y : At, decide (y.name = x.name) = p y := fun y => by rw [← hp]
    simp only [hpp] at h2
    rw [hp] at hA
    have hcap : ∀ c ∈ [AV.ptr (nb + 2) 0 0], OkIn (fun k => (lb nb box [(2, [x.row])]) k ≠ none) (fun _ => True) c := by
      intro c hc
      rw [List.mem_singleton.1 hc]
      simp [lb_at]
    refine sB Tryz.func189 Tryz.ntmps189 ?_
    intro hbox htok
    simp only at hbox htok
    apply AL.start
    try (simp)
    repeat (refine sR ?_; simp)
    refine Stop.of_d (h1 _ _) ?_
    simp
    try (simp)
    repeat (refine sR ?_; simp)
    refine sC ?_
    simp
    try (simp)
    repeat (refine sR ?_; simp)
    refine Stop.of_b (containsFuncA_c before 232 [.ptr (nb + 2) 0 0] p hb _ _ _ _ hcap (fun y hy box' nb' he => h2 y box' nb' _ (he _ _ (by simp [lb_at])))) ?_
    simp
    try (simp)
    repeat (refine sR ?_; simp)
    cases e2 : anyB p before
    · rw [e2, if_neg (by simp)] at hA
      refine sC ?_
      simp
      try (simp)
      repeat (refine sR ?_; simp)
      refine Stop.of_d (h3 _ _) ?_
      simp
      try (simp)
      repeat (refine sR ?_; simp)
      by_cases e3 : nmsE x.names = 0
      · rw [if_neg (by simp [e3])] at hA
        simp only [e3]
        refine sC ?_
        simp
        by_cases c1 : -1000000 ≤ x.lo
        · by_cases c2 : x.lo ≤ x.hi
          · by_cases c3 : x.hi ≤ 1000000
            · try (simp [c1, c2, c3])
              repeat (refine sR ?_; simp [c1, c2, c3])
              by_cases z : x.names.length = 0
              · have z2 : ¬ 0 < x.names.length := by omega
                have hr : rngA x = true := by rw [rngA, if_pos z]; simp only [decide_eq_true_eq, decide_eq_false_iff_not]; omega
                rw [hr] at hA
                refine sC ?_
                simp [z2]
                try (simp)
                repeat (refine sR ?_; simp)
                refine sC ?_
                simp
                try (simp)
                repeat (refine sR ?_; simp)
                refine sT ?_
                try simp only [AU]
                refine ⟨by simp, sF hbox htok (fun _ h => h) (Nat.le_refl _) ?_⟩
                simp [packA, hA]
              · have z2 : 0 < x.names.length := by omega
                have hr : rngA x = decide (x.lo = 0 ∧ x.hi = (x.names.length : Int) - 1) := if_neg z
                rw [hr] at hA
                have hln := hx.l.n
                have w : IntKind.i64.wrap ((x.names.length : Int) - 1) = (x.names.length : Int) - 1 := wrap_in (by omega) (by omega)
                by_cases l0 : x.lo = 0
                · have b0 : (x.lo == 0) = true := by simp [l0]
                  by_cases h0 : x.hi = (x.names.length : Int) - 1
                  · have b1 : (x.hi == (x.names.length : Int) - 1) = true := by simp [h0]
                    refine sC ?_
                    simp [z2]
                    try (simp [w, b0, b1])
                    repeat (refine sR ?_; simp [w, b0, b1])
                    refine sC ?_
                    simp
                    try (simp)
                    repeat (refine sR ?_; simp)
                    refine sT ?_
                    try simp only [AU]
                    refine ⟨by simp, sF hbox htok (fun _ h => h) (Nat.le_refl _) ?_⟩
                    simp [packA, hA, l0, h0]
                  · have b1 : (x.hi == (x.names.length : Int) - 1) = false := by simp [h0]
                    refine sC ?_
                    simp [z2]
                    try (simp [w, b0, b1])
                    repeat (refine sR ?_; simp [w, b0, b1])
                    refine sC ?_
                    simp
                    try (simp)
                    repeat (refine sR ?_; simp)
                    refine sT ?_
                    try simp only [AU]
                    refine ⟨by simp, sF hbox htok (fun _ h => h) (Nat.le_refl _) ?_⟩
                    simp [packA, hA, l0, h0]
                · have b0 : (x.lo == 0) = false := by simp [l0]
                  refine sC ?_
                  simp [z2]
                  try (simp [w, b0])
                  repeat (refine sR ?_; simp [w, b0])
                  refine sC ?_
                  simp
                  try (simp)
                  repeat (refine sR ?_; simp)
                  refine sT ?_
                  try simp only [AU]
                  refine ⟨by simp, sF hbox htok (fun _ h => h) (Nat.le_refl _) ?_⟩
                  simp [packA, hA, l0]
            · try (simp [c1, c2, c3])
              repeat (refine sR ?_; simp [c1, c2, c3])
              by_cases z : x.names.length = 0
              · have z2 : ¬ 0 < x.names.length := by omega
                have hr : rngA x = false := by rw [rngA, if_pos z]; simp only [decide_eq_true_eq, decide_eq_false_iff_not]; omega
                rw [hr] at hA
                refine sC ?_
                simp [z2]
                try (simp)
                repeat (refine sR ?_; simp)
                refine sC ?_
                simp
                try (simp)
                repeat (refine sR ?_; simp)
                refine sT ?_
                try simp only [AU]
                refine ⟨by simp, sF hbox htok (fun _ h => h) (Nat.le_refl _) ?_⟩
                simp [packA, hA]
              · have z2 : 0 < x.names.length := by omega
                have hr : rngA x = decide (x.lo = 0 ∧ x.hi = (x.names.length : Int) - 1) := if_neg z
                rw [hr] at hA
                have hln := hx.l.n
                have w : IntKind.i64.wrap ((x.names.length : Int) - 1) = (x.names.length : Int) - 1 := wrap_in (by omega) (by omega)
                by_cases l0 : x.lo = 0
                · have b0 : (x.lo == 0) = true := by simp [l0]
                  by_cases h0 : x.hi = (x.names.length : Int) - 1
                  · have b1 : (x.hi == (x.names.length : Int) - 1) = true := by simp [h0]
                    refine sC ?_
                    simp [z2]
                    try (simp [w, b0, b1])
                    repeat (refine sR ?_; simp [w, b0, b1])
                    refine sC ?_
                    simp
                    try (simp)
                    repeat (refine sR ?_; simp)
                    refine sT ?_
                    try simp only [AU]
                    refine ⟨by simp, sF hbox htok (fun _ h => h) (Nat.le_refl _) ?_⟩
                    simp [packA, hA, l0, h0]
                  · have b1 : (x.hi == (x.names.length : Int) - 1) = false := by simp [h0]
                    refine sC ?_
                    simp [z2]
                    try (simp [w, b0, b1])
                    repeat (refine sR ?_; simp [w, b0, b1])
                    refine sC ?_
                    simp
                    try (simp)
                    repeat (refine sR ?_; simp)
                    refine sT ?_
                    try simp only [AU]
                    refine ⟨by simp, sF hbox htok (fun _ h => h) (Nat.le_refl _) ?_⟩
                    simp [packA, hA, l0, h0]
                · have b0 : (x.lo == 0) = false := by simp [l0]
                  refine sC ?_
                  simp [z2]
                  try (simp [w, b0])
                  repeat (refine sR ?_; simp [w, b0])
                  refine sC ?_
                  simp
                  try (simp)
                  repeat (refine sR ?_; simp)
                  refine sT ?_
                  try simp only [AU]
                  refine ⟨by simp, sF hbox htok (fun _ h => h) (Nat.le_refl _) ?_⟩
                  simp [packA, hA, l0]
          · try (simp [c1, c2])
            repeat (refine sR ?_; simp [c1, c2])
            by_cases z : x.names.length = 0
            · have z2 : ¬ 0 < x.names.length := by omega
              have hr : rngA x = false := by rw [rngA, if_pos z]; simp only [decide_eq_true_eq, decide_eq_false_iff_not]; omega
              rw [hr] at hA
              refine sC ?_
              simp [z2]
              try (simp)
              repeat (refine sR ?_; simp)
              refine sC ?_
              simp
              try (simp)
              repeat (refine sR ?_; simp)
              refine sT ?_
              try simp only [AU]
              refine ⟨by simp, sF hbox htok (fun _ h => h) (Nat.le_refl _) ?_⟩
              simp [packA, hA]
            · have z2 : 0 < x.names.length := by omega
              have hr : rngA x = decide (x.lo = 0 ∧ x.hi = (x.names.length : Int) - 1) := if_neg z
              rw [hr] at hA
              have hln := hx.l.n
              have w : IntKind.i64.wrap ((x.names.length : Int) - 1) = (x.names.length : Int) - 1 := wrap_in (by omega) (by omega)
              by_cases l0 : x.lo = 0
              · have b0 : (x.lo == 0) = true := by simp [l0]
                by_cases h0 : x.hi = (x.names.length : Int) - 1
                · have b1 : (x.hi == (x.names.length : Int) - 1) = true := by simp [h0]
                  refine sC ?_
                  simp [z2]
                  try (simp [w, b0, b1])
                  repeat (refine sR ?_; simp [w, b0, b1])
                  refine sC ?_
                  simp
                  try (simp)
                  repeat (refine sR ?_; simp)
                  refine sT ?_
                  try simp only [AU]
                  refine ⟨by simp, sF hbox htok (fun _ h => h) (Nat.le_refl _) ?_⟩
                  simp [packA, hA, l0, h0]
                · have b1 : (x.hi == (x.names.length : Int) - 1) = false := by simp [h0]
                  refine sC ?_
                  simp [z2]
                  try (simp [w, b0, b1])
                  repeat (refine sR ?_; simp [w, b0, b1])
                  refine sC ?_
                  simp
                  try (simp)
                  repeat (refine sR ?_; simp)
                  refine sT ?_
                  try simp only [AU]
                  refine ⟨by simp, sF hbox htok (fun _ h => h) (Nat.le_refl _) ?_⟩
                  simp [packA, hA, l0, h0]
              · have b0 : (x.lo == 0) = false := by simp [l0]
                refine sC ?_
                simp [z2]
                try (simp [w, b0])
                repeat (refine sR ?_; simp [w, b0])
                refine sC ?_
                simp
                try (simp)
                repeat (refine sR ?_; simp)
                refine sT ?_
                try simp only [AU]
                refine ⟨by simp, sF hbox htok (fun _ h => h) (Nat.le_refl _) ?_⟩
                simp [packA, hA, l0]
        · try (simp [c1])
          repeat (refine sR ?_; simp [c1])
          by_cases z : x.names.length = 0
          · have z2 : ¬ 0 < x.names.length := by omega
            have hr : rngA x = false := by rw [rngA, if_pos z]; simp only [decide_eq_true_eq, decide_eq_false_iff_not]; omega
            rw [hr] at hA
            refine sC ?_
            simp [z2]
            try (simp)
            repeat (refine sR ?_; simp)
            refine sC ?_
            simp
            try (simp)
            repeat (refine sR ?_; simp)
            refine sT ?_
            try simp only [AU]
            refine ⟨by simp, sF hbox htok (fun _ h => h) (Nat.le_refl _) ?_⟩
            simp [packA, hA]
          · have z2 : 0 < x.names.length := by omega
            have hr : rngA x = decide (x.lo = 0 ∧ x.hi = (x.names.length : Int) - 1) := if_neg z
            rw [hr] at hA
            have hln := hx.l.n
            have w : IntKind.i64.wrap ((x.names.length : Int) - 1) = (x.names.length : Int) - 1 := wrap_in (by omega) (by omega)
            by_cases l0 : x.lo = 0
            · have b0 : (x.lo == 0) = true := by simp [l0]
              by_cases h0 : x.hi = (x.names.length : Int) - 1
              · have b1 : (x.hi == (x.names.length : Int) - 1) = true := by simp [h0]
                refine sC ?_
                simp [z2]
                try (simp [w, b0, b1])
                repeat (refine sR ?_; simp [w, b0, b1])
                refine sC ?_
                simp
                try (simp)
                repeat (refine sR ?_; simp)
                refine sT ?_
                try simp only [AU]
                refine ⟨by simp, sF hbox htok (fun _ h => h) (Nat.le_refl _) ?_⟩
                simp [packA, hA, l0, h0]
              · have b1 : (x.hi == (x.names.length : Int) - 1) = false := by simp [h0]
                refine sC ?_
                simp [z2]
                try (simp [w, b0, b1])
                repeat (refine sR ?_; simp [w, b0, b1])
                refine sC ?_
                simp
                try (simp)
                repeat (refine sR ?_; simp)
                refine sT ?_
                try simp only [AU]
                refine ⟨by simp, sF hbox htok (fun _ h => h) (Nat.le_refl _) ?_⟩
                simp [packA, hA, l0, h0]
            · have b0 : (x.lo == 0) = false := by simp [l0]
              refine sC ?_
              simp [z2]
              try (simp [w, b0])
              repeat (refine sR ?_; simp [w, b0])
              refine sC ?_
              simp
              try (simp)
              repeat (refine sR ?_; simp)
              refine sT ?_
              try simp only [AU]
              refine ⟨by simp, sF hbox htok (fun _ h => h) (Nat.le_refl _) ?_⟩
              simp [packA, hA, l0]
      · rw [if_pos e3] at hA
        have b3 : (nmsE x.names != 0) = true := by simp [e3]
        simp only [b3]
        refine sC ?_
        simp
        try (simp)
        repeat (refine sR ?_; simp)
        refine sT ?_
        try simp only [AU]
        refine ⟨by simp, sF hbox htok (fun _ h => h) (Nat.le_refl _) ?_⟩
        simp [packA, hA]
    · rw [e2, if_pos rfl] at hA
      refine sC ?_
      simp
      try (simp)
      repeat (refine sR ?_; simp)
      refine sT ?_
      try simp only [AU]
      refine ⟨by simp, sF hbox htok (fun _ h => h) (Nat.le_refl _) ?_⟩
      simp [packA, hA]
end Go.AM
namespace Go.AM
open Go Go.Proofs
end Go.AM
namespace Go.AM
open Go Go.Proofs
instance : Inhabited NT := ⟨⟨eB, 0, false, []⟩⟩
def Ty.nd (t : Ty) (i : Nat) : NT := t.nodes.getD i default
def atsL (t : Ty) (i : Nat) : List At := if h : 0 ≤ (t.nd i).par ∧ (t.nd i).par.toNat < i then atsL t (t.nd i).par.toNat ++ (t.nd i).own else (t.nd i).own
termination_by i
decreasing_by exact h.2
theorem atsL_up {t : Ty} {i : Nat} (h : 0 ≤ (t.nd i).par) (h2 : (t.nd i).par.toNat < i) : atsL t i = atsL t (t.nd i).par.toNat ++ (t.nd i).own := by rw [atsL, dif_pos ⟨h, h2⟩]
theorem atsL_top {t : Ty} {i : Nat} (h : ¬ 0 ≤ (t.nd i).par) : atsL t i = (t.nd i).own := by rw [atsL, dif_neg fun h2 => h h2.1]
theorem atsL_len {t : Ty} {M : Nat} (hM : ∀ i, (t.nd i).own.length ≤ M) : ∀ n i, i < n → (atsL t i).length ≤ (i + 1) * M
  | 0, i, hi => absurd hi (Nat.not_lt_zero _)
  | n + 1, i, hi => by
    have hm := hM i
    by_cases h : 0 ≤ (t.nd i).par ∧ (t.nd i).par.toNat < i
    · have ih := atsL_len hM n (t.nd i).par.toNat (by omega)
      rw [atsL_up h.1 h.2, List.length_append]
      have : ((t.nd i).par.toNat + 1) * M ≤ i * M := Nat.mul_le_mul_right _ (by omega)
      rw [Nat.add_mul, Nat.one_mul]
      omega
    · rw [atsL, dif_neg h]
      have : M ≤ (i + 1) * M := Nat.le_mul_of_pos_left _ (by omega)
      omega
structure Ty.Fit (t : Ty) : Prop where
  n : t.nodes.length ≤ 1000
  e : t.edges.length ≤ 1000
  nn : ∀ x ∈ t.nodes, x.name.size ≤ 1000000000000
  en : ∀ x ∈ t.edges, x.name.size ≤ 1000000000000
  a : ∀ x ∈ t.nodes, x.own.length ≤ 1000 ∧ ∀ y ∈ x.own, y.Fit
theorem nd_at {t : Ty} {i : Nat} (h : i < t.nodes.length) : t.nd i = t.nodes[i] := by simp [Ty.nd, h]
theorem attrs_c (t : Ty) (ht : t.Fit) (hM : ∀ i, (t.nd i).own.length ≤ 1000) : ∀ (n i : Nat), i < n → i < t.nodes.length → (∀ j, j ≤ i → (t.nd j).par < j) → ∀ (tok : Nat → Bool) (nt : Nat), ∃ tok' nt' o, ((∀ q, tok q = true → q < nt) → TK tok nt tok' nt' [o]) ∧
    DCall Tryz.prog 188 [t.av, I i] tok nt (.osl 4 ((atsL t i).map At.cells) o) tok' nt'
  | 0, i, hi, _, _, _, _ => absurd hi (Nat.not_lt_zero _)
  | n + 1, i, hi, hlt, hp, tok, nt => by
    have hnd := nd_at hlt
    by_cases h0 : 0 ≤ (t.nd i).par
    · have hpi := hp i (Nat.le_refl _)
      obtain ⟨tok1, nt1, o1, hk, hc⟩ := attrs_c t ht hM n (t.nd i).par.toNat (by omega) (by omega) (fun j hj => hp j (by omega)) tok nt
      have hL := atsL_up h0 (by omega)
      have hl1 := atsL_len hM (i + 1) (t.nd i).par.toNat (by omega)
      have hl2 := hM i
      have hb : ((t.nd i).par.toNat + 1) * 1000 ≤ 1000 * 1000 := Nat.mul_le_mul_right _ (by have := ht.n; omega)
      refine ⟨_, _, .tok nt1, fun h => (hk h).app, ?_⟩
      rw [hL]
      rw [Int.toNat_of_nonneg h0] at hc
      generalize atsL t (t.nd i).par.toNat = Q at *
      rw [hnd] at h0 hc hl2 ⊢
      intro box nb
      have hc := hc
      refine sB Tryz.func188 Tryz.ntmps188 ?_
      intro hbox htok
      simp only at hbox htok
      apply AL.start
      have hkk := hk htok
      try (simp [hlt])
      repeat (refine sR ?_; simp [hlt])
      refine sC ?_
      simp [h0]
      try (simp)
      repeat (refine sR ?_; simp)
      refine Stop.of_d (hc) ?_
      simp
      try (simp [hlt])
      repeat (refine sR ?_; simp [hlt])
      refine ⟨⟨by omega, hkk.live⟩, ?_⟩
      refine sN ?_
      refine AL.ret ?_
      try simp only [AU]
      refine ⟨by simp, Fin.own (by simp [resAs, resA]; rfl) hbox rfl hkk.app.le ?_⟩
      simp [packA]
    · have hL := atsL_top h0
      have hl2 := hM i
      refine ⟨_, _, .tok nt, fun h => (TK.start h).full.app, ?_⟩
      rw [hL]
      rw [hnd] at h0 hl2 ⊢
      intro box nb
      refine sB Tryz.func188 Tryz.ntmps188 ?_
      intro hbox htok
      simp only at hbox htok
      apply AL.start
      have hkk := (TK.start htok).full
      try (simp [hlt])
      repeat (refine sR ?_; simp [hlt])
      refine sC ?_
      simp [h0]
      try (simp [hlt])
      repeat (refine sR ?_; simp [hlt])
      refine ⟨by omega, ?_⟩
      refine sN ?_
      refine AL.ret ?_
      try simp only [AU]
      refine ⟨by simp, Fin.own (by simp [resAs, resA]; rfl) hbox rfl (by simp) ?_⟩
      simp [packA]
end Go.AM
namespace Go.AM
open Go Go.Proofs
def bndB (lo hi : Int) : Bool := decide (0 ≤ lo ∧ lo ≤ 40) && (hi == -1 || decide (lo ≤ hi ∧ hi ≤ 40))
theorem bounded_c (lo hi : Int) (tok : Nat → Bool) (nt : Nat) : DCall Tryz.prog 193 [I lo, I hi] tok nt (B (bndB lo hi)) tok nt := by
  intro box nb
  by_cases h1 : 0 ≤ lo
  · by_cases h2 : lo ≤ 40
    · cases h3 : (hi == -1)
      · by_cases h4 : lo ≤ hi
        · by_cases h5 : hi ≤ 40
          · refine sB Tryz.func193 Tryz.ntmps193 ?_
            intro hbox htok
            simp only at hbox htok
            apply AL.start
            try (simp [h1, h2, h3, h4, h5])
            repeat (refine sR ?_; simp [h1, h2, h3, h4, h5])
            refine sT ?_
            try simp only [AU]
            refine ⟨by simp, sF hbox htok (fun _ h => h) (Nat.le_refl _) ?_⟩
            simp [packA, bndB, h1, h2, h3, h4, h5]
          · refine sB Tryz.func193 Tryz.ntmps193 ?_
            intro hbox htok
            simp only at hbox htok
            apply AL.start
            try (simp [h1, h2, h3, h4, h5])
            repeat (refine sR ?_; simp [h1, h2, h3, h4, h5])
            refine sT ?_
            try simp only [AU]
            refine ⟨by simp, sF hbox htok (fun _ h => h) (Nat.le_refl _) ?_⟩
            simp [packA, bndB, h1, h2, h3, h4, h5]
        · refine sB Tryz.func193 Tryz.ntmps193 ?_
          intro hbox htok
          simp only at hbox htok
          apply AL.start
          try (simp [h1, h2, h3, h4])
          repeat (refine sR ?_; simp [h1, h2, h3, h4])
          refine sT ?_
          try simp only [AU]
          refine ⟨by simp, sF hbox htok (fun _ h => h) (Nat.le_refl _) ?_⟩
          simp [packA, bndB, h1, h2, h3, h4]
      · refine sB Tryz.func193 Tryz.ntmps193 ?_
        intro hbox htok
        simp only at hbox htok
        apply AL.start
        try (simp [h1, h2, h3])
        repeat (refine sR ?_; simp [h1, h2, h3])
        refine sT ?_
        try simp only [AU]
        refine ⟨by simp, sF hbox htok (fun _ h => h) (Nat.le_refl _) ?_⟩
        simp [packA, bndB, h1, h2, h3]
    · refine sB Tryz.func193 Tryz.ntmps193 ?_
      intro hbox htok
      simp only at hbox htok
      apply AL.start
      try (simp [h1, h2])
      repeat (refine sR ?_; simp [h1, h2])
      refine sT ?_
      try simp only [AU]
      refine ⟨by simp, sF hbox htok (fun _ h => h) (Nat.le_refl _) ?_⟩
      simp [packA, bndB, h1, h2]
  · refine sB Tryz.func193 Tryz.ntmps193 ?_
    intro hbox htok
    simp only at hbox htok
    apply AL.start
    try (simp [h1])
    repeat (refine sR ?_; simp [h1])
    refine sT ?_
    try simp only [AU]
    refine ⟨by simp, sF hbox htok (fun _ h => h) (Nat.le_refl _) ?_⟩
    simp [packA, bndB, h1]
abbrev NT.row (n : NT) : List AV := [Sb n.name, I n.par, B n.abs, .d (atts n.own)]
abbrev ET.row (e : ET) : List AV := [Sb e.name, I e.fr, I e.to, I e.ol, I e.oh, I e.il, I e.ih]
theorem node1_c (x y : NT) (box : Nat → Option (List (List AV))) (nb k : Nat) (tok : Nat → Bool) (nt : Nat) (h1 : box k = some [x.row]) :
    ACalls Tryz.prog 187 [y.av, .ptr k 0 0] ⟨box, nb, tok, nt⟩ fun v m => v = B (decide (y.name = x.name)) ∧ m = ⟨box, nb, tok, nt⟩ := by
  refine sB Tryz.func187 Tryz.ntmps187 ?_
  intro hbox htok
  simp only at hbox htok
  apply AL.start
  have k1n := key_lt hbox h1
  rw [← seq_dec]
  try (simp [lb_out k1n, h1])
  repeat (refine sR ?_; simp [lb_out k1n, h1])
  refine sT ?_
  try simp only [AU]
  refine ⟨by simp, sF hbox htok (fun _ h => h) (Nat.le_refl _) ?_⟩
  simp [packA]
theorem edge2_c (x y : ET) (box : Nat → Option (List (List AV))) (nb k : Nat) (tok : Nat → Bool) (nt : Nat) (h1 : box k = some [x.row]) :
    ACalls Tryz.prog 192 [y.av, .ptr k 0 0] ⟨box, nb, tok, nt⟩ fun v m => v = B (decide (y.name = x.name)) ∧ m = ⟨box, nb, tok, nt⟩ := by
  refine sB Tryz.func192 Tryz.ntmps192 ?_
  intro hbox htok
  simp only at hbox htok
  apply AL.start
  have k1n := key_lt hbox h1
  rw [← seq_dec]
  try (simp [lb_out k1n, h1])
  repeat (refine sR ?_; simp [lb_out k1n, h1])
  refine sT ?_
  try simp only [AU]
  refine ⟨by simp, sF hbox htok (fun _ h => h) (Nat.le_refl _) ?_⟩
  simp [packA]
def insB (t : Ty) (n : Int) : Bool := decide (0 ≤ n ∧ n < t.nodes.length)
theorem edge1_c (t : Ty) (n : Int) (box : Nat → Option (List (List AV))) (nb k : Nat) (tok : Nat → Bool) (nt : Nat) (h1 : box k = some [[.d (nts t.nodes), .d (ets t.edges)]]) :
    ACalls Tryz.prog 190 [I n, .ptr k 0 0] ⟨box, nb, tok, nt⟩ fun v m => v = B (insB t n) ∧ m = ⟨box, nb, tok, nt⟩ := by
  by_cases h0 : 0 ≤ n
  · refine sB Tryz.func190 Tryz.ntmps190 ?_
    intro hbox htok
    simp only at hbox htok
    apply AL.start
    have k1n := key_lt hbox h1
    try (simp [lb_out k1n, h1, h0])
    repeat (refine sR ?_; simp [lb_out k1n, h1, h0])
    refine sT ?_
    try simp only [AU]
    refine ⟨by simp, sF hbox htok (fun _ h => h) (Nat.le_refl _) ?_⟩
    simp [packA, insB, h0]
  · refine sB Tryz.func190 Tryz.ntmps190 ?_
    intro hbox htok
    simp only at hbox htok
    apply AL.start
    have k1n := key_lt hbox h1
    try (simp [lb_out k1n, h1, h0])
    repeat (refine sR ?_; simp [lb_out k1n, h1, h0])
    refine sT ?_
    try simp only [AU]
    refine ⟨by simp, sF hbox htok (fun _ h => h) (Nat.le_refl _) ?_⟩
    simp [packA, insB, h0]
end Go.AM
namespace Go.AM
open Go Go.Proofs
def atAt (L : List At) (k : Nat) : Int := attE (L.getD k ⟨eB, 0, 0, []⟩) (L.take k)
def ownAt (L : List At) (M k : Nat) : Int := if k + M < L.length then 0 else atAt L k
def ownE (L : List At) (M : Nat) : Int := firstE (ownAt L M) L.length
theorem ownAt_zero (L : List At) (M : Nat) : ∀ k, k + M ≤ L.length → firstE (ownAt L M) k = 0
  | 0, _ => rfl
  | k + 1, h => by
    simp only [firstE, ownAt_zero L M k (by omega), ↓reduceIte, ownAt]
    rw [if_pos (by omega)]
theorem atsL_own {t : Ty} {i : Nat} : (t.nd i).own.length ≤ (atsL t i).length := by
  rw [atsL]
  split
  · rw [List.length_append]; omega
  · exact Nat.le_refl _
theorem atsL_fit {t : Ty} (ht : t.Fit) : ∀ n i, i < n → ∀ x ∈ atsL t i, x.Fit
  | 0, i, hi => absurd hi (Nat.not_lt_zero _)
  | n + 1, i, hi => by
    have hown : ∀ x ∈ (t.nd i).own, x.Fit := by
      by_cases h : i < t.nodes.length
      · rw [nd_at h]; exact (ht.a _ (List.getElem_mem h)).2
      · intro x hx
        simp only [Ty.nd, List.getD_eq_getElem?_getD, List.getElem?_eq_none (Nat.le_of_not_lt h), Option.getD_none] at hx
        cases hx
    rw [atsL]
    split
    · rename_i h
      intro x hx
      rcases List.mem_append.1 hx with hx | hx
      · exact atsL_fit ht n _ (by omega) x hx
      · exact hown x hx
    · exact hown
theorem at_getD {L : List At} {k : Nat} (h : k < L.length) : atAt L k = attE L[k] (L.take k) := by simp [atAt, h]
theorem atts_take (L : List At) (k : Nat) : atts (L.take k) = .sl 4 (List.take k (L.map At.cells)) := by rw [atts, List.map_take]
theorem atts_at {L : List At} {k : Nat} (h : k < L.length) : (L.map At.cells)[k]? = some L[k].cells := by simp [h]
def nodE (t : Ty) (i : Nat) : Int :=
  if nameB (t.nd i).name = false then 2 else if anyB (fun y => decide (y.name = (t.nd i).name)) (t.nodes.take i) = true then 5
  else if (t.nd i).par < -1 ∨ (i : Int) ≤ (t.nd i).par then 6 else if 4 < (t.nd i).own.length then 3
  else if 8 < (atsL t i).length then 3 else ownE (atsL t i) (t.nd i).own.length
def stNo (L : List At) (nb : Nat) (box : Nat → Option (List (List AV))) (tok : Nat → Bool) (nt : Nat) (k : Nat) : AState := ⟨tl [(7, I k), (6, .d (atts L))], lb nb box [], tok, nt⟩
theorem node_c (t : Ty) (ht : t.Fit) (hM : ∀ i, (t.nd i).own.length ≤ 1000) (i : Nat) (hi : i < t.nodes.length) (hp : ∀ j, j < i → (t.nd j).par < j) (tok : Nat → Bool) (nt : Nat) : DCall Tryz.prog 128 [t.av, I i] tok nt (I (nodE t i)) tok nt := by
  intro box nb
  have hnd := nd_at hi
  have hmem := List.getElem_mem hi
  have h1 := isName_c (t.nd i).name (by rw [hnd]; exact ht.nn _ hmem)
  obtain ⟨N, hN⟩ : ∃ N, nodE t i = N := ⟨_, rfl⟩
  rw [hN]
  unfold nodE at hN
  rw [hnd] at h1 hN
  cases e1 : nameB t.nodes[i].name
  · rw [e1] at h1 hN
    rw [if_pos rfl] at hN
    refine sB Tryz.func128 Tryz.ntmps128 ?_
    intro hbox htok
    simp only at hbox htok
    apply AL.start
    try (simp [hi])
    repeat (refine sR ?_; simp [hi])
    refine Stop.of_d (h1 _ _) ?_
    simp
    try (simp)
    repeat (refine sR ?_; simp)
    refine sC ?_
    simp
    try (simp)
    repeat (refine sR ?_; simp)
    refine sT ?_
    try simp only [AU]
    refine ⟨by simp, sF hbox htok (fun _ h => h) (Nat.le_refl _) ?_⟩
    simp [packA, ← hN]
  · rw [e1] at h1 hN
    rw [if_neg (by simp)] at hN
    obtain ⟨p, hpp⟩ : ∃ p : NT → Bool, (fun y => decide (y.name = t.nodes[i].name)) = p := ⟨_, rfl⟩
    have h2 := fun y box nb k (hbk : box k = some [(t.nodes[i]'hi).row]) => node1_c (t.nodes[i]'hi) y box nb k tok nt hbk
    have hpy : ∀ y : NT, decide (y.name = t.nodes[i].name) = p y := fun y => by rw [← hpp]
    simp only [hpy] at h2
    rw [hpp] at hN
    refine sB Tryz.func128 Tryz.ntmps128 ?_
    intro hbox htok
    simp only at hbox htok
    apply AL.start
    try (simp [hi])
    repeat (refine sR ?_; simp [hi])
    refine Stop.of_d (h1 _ _) ?_
    simp
    try (simp)
    repeat (refine sR ?_; simp)
    refine sC ?_
    simp
    try (simp [hi])
    repeat (refine sR ?_; simp [hi])
    refine ⟨by omega, ?_⟩
    have hcf := fun (b : Nat → Option (List (List AV))) nb' h3 h4 => containsFuncN_c (t.nodes.take i) 187 [.ptr (nb + 5) 0 0] p (by simp; have := ht.n; omega) b nb' tok nt h3 h4
    rw [show nts (t.nodes.take i) = .sl 4 (List.take i (t.nodes.map NT.cells)) by rw [nts, List.map_take]] at hcf
    refine Stop.of_b (hcf _ _ (fun c hc => by rw [List.mem_singleton.1 hc]; simp [lb_at]) (fun y hy box' nb' he => h2 y box' nb' _ (he _ _ (by simp [lb_at])))) ?_
    simp
    cases e2 : anyB p (t.nodes.take i)
    · rw [e2, if_neg (by simp)] at hN
      refine sC ?_
      simp
      by_cases e3 : t.nodes[i].par < -1
      · rw [if_pos (.inl e3)] at hN
        try (simp [e3])
        repeat (refine sR ?_; simp [e3])
        refine sC ?_
        simp
        try (simp)
        repeat (refine sR ?_; simp)
        refine sT ?_
        try simp only [AU]
        refine ⟨by simp, sF hbox htok (fun _ h => h) (Nat.le_refl _) ?_⟩
        simp [packA, ← hN]
      · by_cases e4 : (i : Int) ≤ t.nodes[i].par
        · rw [if_pos (.inr e4)] at hN
          try (simp [e3, e4])
          repeat (refine sR ?_; simp [e3, e4])
          refine sC ?_
          simp
          try (simp)
          repeat (refine sR ?_; simp)
          refine sT ?_
          try simp only [AU]
          refine ⟨by simp, sF hbox htok (fun _ h => h) (Nat.le_refl _) ?_⟩
          simp [packA, ← hN]
        · rw [if_neg (by omega)] at hN
          try (simp [e3, e4])
          repeat (refine sR ?_; simp [e3, e4])
          refine sC ?_
          simp
          try (simp)
          repeat (refine sR ?_; simp)
          by_cases e5 : 4 < t.nodes[i].own.length
          · have e5' : (4 : Int) < t.nodes[i].own.length := by omega
            rw [if_pos e5] at hN
            refine sC ?_
            simp [e5, e5']
            try (simp)
            repeat (refine sR ?_; simp)
            refine sT ?_
            try simp only [AU]
            refine ⟨by simp, sF hbox htok (fun _ h => h) (Nat.le_refl _) ?_⟩
            simp [packA, ← hN]
          · have e5' : ¬ (4 : Int) < t.nodes[i].own.length := by omega
            rw [if_neg e5] at hN
            obtain ⟨tok1, nt1, o1, hk, hc⟩ := attrs_c t ht hM (i + 1) i (Nat.lt_succ_self _) hi (fun j hj => by
              by_cases e : j = i
              · subst e; rw [hnd]; omega
              · exact hp j (by omega)) tok nt
            have hal := atsL_len hM (i + 1) i (Nat.lt_succ_self _)
            have haf := atsL_fit ht (i + 1) i (Nat.lt_succ_self _)
            have hml := atsL_own (t := t) (i := i)
            rw [hnd] at hml
            have htn := ht.n
            have hal2 : (atsL t i).length ≤ 1000000 := Nat.le_trans hal (by have : (i + 1) * 1000 ≤ 1000 * 1000 := Nat.mul_le_mul_right _ (by omega); omega)
            clear hal
            generalize atsL t i = L at *
            refine sC ?_
            simp [e5, e5']
            try (simp)
            repeat (refine sR ?_; simp)
            refine Stop.of_d (hc) ?_
            simp
            have hkk := hk htok
            try (simp)
            repeat (refine sR ?_; simp)
            by_cases e6 : 8 < L.length
            · have e6' : (8 : Int) < L.length := by omega
              rw [if_pos e6] at hN
              refine sC ?_
              simp [e6, e6']
              try (simp)
              repeat (refine sR ?_; simp)
              refine sT ?_
              try simp only [AU]
              refine ⟨by simp, sF hbox htok hkk.old hkk.le ?_⟩
              simp [packA, ← hN]
            · have e6' : ¬ (8 : Int) < L.length := by omega
              rw [if_neg e6] at hN
              have hw0 : IntKind.i64.wrap ((L.length : Int) - (t.nodes[i].own.length : Nat)) = ((L.length - t.nodes[i].own.length : Nat) : Int) := by rw [wrap_in (by omega) (by omega)]; omega
              have hz := ownAt_zero L t.nodes[i].own.length (L.length - t.nodes[i].own.length) (by omega)
              unfold ownE at hN
              obtain ⟨f, hf⟩ : ∃ f, ownAt L t.nodes[i].own.length = f := ⟨_, rfl⟩
              have hfk : ∀ k, (hk : k < L.length) → L.length - t.nodes[i].own.length ≤ k → f k = attE L[k] (L.take k) := fun k hk hge => by
                rw [← hf, ownAt, if_neg (by omega), at_getD hk]
              rw [hf] at hN hz
              refine sC ?_
              simp [e6, e6']
              try (simp [hi, lb_at, hw0])
              repeat (refine sR ?_; simp [hi, lb_at, hw0])
              have hal3 : L.length - t.nodes[i].own.length ≤ L.length := Nat.sub_le _ _
              generalize L.length - t.nodes[i].own.length = a at *
              refine sN ?_
              refine AL.loopT (stNo L nb box tok1 nt1) (fun k => a ≤ k ∧ k ≤ L.length ∧ firstE f k = 0) (fun k => L.length - k) a ⟨Nat.le_refl _, by omega, hz⟩ (Weaks.mk (by have := hkk.le; omega) rfl (by simp [ToL, lk, To.data]) trivial) ?_
              rintro k S' ⟨hak, hkl, hok⟩ hS
              simp only [stNo] at hS
              subst hS
              have hw := sW (i := k) (by omega)
              try (simp)
              repeat (refine sR ?_; simp)
              refine sC ?_
              simp
              refine ⟨fun hlt => ?_, fun hge => ?_⟩
              · have hA := hfk k hlt hak
                have hc2 := attribute_c L[k] (L.take k) (haf _ (List.getElem_mem hlt)) (by simp; omega)
                rw [atts_take, ← hA] at hc2
                have hR : f k ≠ 0 → firstE f L.length = f k := fun h0 => firstE_stop hok h0 L.length hlt
                have hnx : f k = 0 → firstE f (k + 1) = 0 := fun h0 => by simp only [firstE, hok, h0, ↓reduceIte]
                generalize f k = E at *
                try (simp [hlt, atts_at hlt])
                repeat (refine sR ?_; simp [hlt, atts_at hlt])
                try refine ⟨by omega, ?_⟩
                refine Stop.of_d (hc2 _ _) ?_
                simp
                try (simp)
                repeat (refine sR ?_; simp)
                by_cases e7 : E = 0
                · refine sC ?_
                  simp [e7]
                  try (simp [hw])
                  repeat (refine sR ?_; simp [hw])
                  refine sE ?_
                  exact ⟨k + 1, ⟨by omega, hlt, hnx e7⟩, by omega, Weaks.mk (by have := hkk.le; omega) rfl (by simp [ToL, lk]) trivial⟩
                · have b7 : (E != 0) = true := by simp [e7]
                  refine sC ?_
                  simp [e7, b7]
                  try (simp)
                  repeat (refine sR ?_; simp)
                  refine sT ?_
                  try simp only [AU]
                  refine ⟨by simp, sF hbox htok hkk.old hkk.le ?_⟩
                  simp [packA, ← hN, hR e7]
              · refine sX ?_
                simp only [AU, ↓reduceIte]
                try (simp)
                repeat (refine sR ?_; simp)
                have : k = L.length := by omega
                subst this
                refine sT ?_
                try simp only [AU]
                refine ⟨by simp, sF hbox htok hkk.old hkk.le ?_⟩
                simp [packA, ← hN, hok]
    · rw [e2, if_pos rfl] at hN
      refine sC ?_
      simp
      try (simp)
      repeat (refine sR ?_; simp)
      refine sT ?_
      try simp only [AU]
      refine ⟨by simp, sF hbox htok (fun _ h => h) (Nat.le_refl _) ?_⟩
      simp [packA, ← hN]
end Go.AM
