/-
 Parts of the proof, as merged from many texts: a machine over data, what the functions compute, plain laws.
-/
import Derived.Test.YtfgcpmeadeehhaaGreatPTD10
set_option linter.unusedSimpArgs false
set_option linter.unusedVariables false
namespace Go.AM
open Go
structure Lyr (nl nr ng nh : Nat) (m n : Nat → Nat) (K F : Nat → Nat → Prop) : Prop where
 f1 : ∀ b c c', F b c → F b c' → c = c'
 f2 : ∀ b b' c, F b c → F b' c → b = b'
 d : ∀ b, b < ng → ((∃ c, F b c) ↔ ¬ ∃ a, a < nl ∧ m a = b ∧ ¬ ∃ a', K a a')
 r : ∀ c, c < nh → ((∃ b, F b c) ↔ ¬ ∃ a, a < nr ∧ n a = c ∧ ¬ ∃ a', K a' a)
 k : ∀ a a', K a a' → F (m a) (n a')
 fr : ∀ b c, F b c → b < ng ∧ c < nh
 kr : ∀ a a', K a a' → a < nl ∧ a' < nr
 mr : ∀ a, a < nl → m a < ng
 nr' : ∀ a, a < nr → n a < nh
 mi : ∀ a a', a < nl → a' < nl → m a = m a' → a = a'
 ni : ∀ a a', a < nr → a' < nr → n a = n a' → a = a'
theorem Lyr.symm {nl nr ng nh : Nat} {m n : Nat → Nat} {K F : Nat → Nat → Prop} (h : Lyr nl nr ng nh m n K F) : Lyr nr nl nh ng n m (fun a b => K b a) (fun a b => F b a) :=
 ⟨fun b c c' h1 h2 => h.f2 _ _ _ h1 h2, fun b b' c h1 h2 => h.f1 _ _ _ h1 h2, h.r, h.d, fun a a' hk => h.k _ _ hk, fun b c hf => (h.fr _ _ hf).symm, fun a a' hk => (h.kr _ _ hk).symm, h.nr', h.mr, h.ni, h.mi⟩
def relQ (nr : Nat) (a n q' : Nat → Nat) (K J F : Nat → Nat → Prop) (v w : Nat) : Prop := (∃ u, J u v ∧ F (q' u) w) ∨ ∃ b, b < nr ∧ a b = v ∧ (¬ ∃ b0, K b0 b) ∧ n b = w
section
variable {nl nr ny nx ng nh : Nat} {p a m n q' : Nat → Nat} {K J F : Nat → Nat → Prop}
theorem relQ_def (h1 : Lyr nl nr ny nx p a K J) (h2 : Lyr nl nr ng nh m n K F) (hr : ∀ u, u < ny → q' u < ng) (hi : ∀ u u', u < ny → u' < ny → q' u = q' u' → u = u') (hp : ∀ b, b < nl → q' (p b) = m b) {u v : Nat} (hj : J u v) : ∃ w, F (q' u) w := by
 obtain ⟨u1, v1⟩ := h1.fr _ _ hj
 rw [h2.d _ (hr _ u1)]
 rintro ⟨b, hb, e, hk⟩
 have e2 : u = p b := hi _ _ u1 (h1.mr _ hb) (by rw [hp _ hb, e])
 exact (h1.d _ u1).1 ⟨v, hj⟩ ⟨b, hb, e2.symm, hk⟩
theorem relQ_ex (h1 : Lyr nl nr ny nx p a K J) (h2 : Lyr nl nr ng nh m n K F) (hr : ∀ u, u < ny → q' u < ng) (hi : ∀ u u', u < ny → u' < ny → q' u = q' u' → u = u') (hp : ∀ b, b < nl → q' (p b) = m b) {v : Nat} (hv : v < nx) : ∃ w, relQ nr a n q' K J F v w := by
 by_cases h : ∃ u, J u v
 ·obtain ⟨u, hu⟩ := h
  obtain ⟨w, hw⟩ := relQ_def h1 h2 hr hi hp hu
  exact ⟨w, .inl ⟨u, hu, hw⟩⟩
 ·have h3 : ∃ a0, a0 < nr ∧ a a0 = v ∧ ¬ ∃ a', K a' a0 := Classical.byContradiction fun hc => h ((h1.r _ hv).2 hc)
  obtain ⟨b, hb, e, hk⟩ := h3
  exact ⟨n b, .inr ⟨b, hb, e, hk, rfl⟩⟩
theorem relQ_mix (h1 : Lyr nl nr ny nx p a K J) {v u b : Nat} (hj : J u v) (hb : b < nr) (e : a b = v) (hk : ¬ ∃ b0, K b0 b) : False :=
 (h1.r _ (h1.fr _ _ hj).2).1 ⟨u, hj⟩ ⟨b, hb, e, hk⟩
theorem relQ_fun (h1 : Lyr nl nr ny nx p a K J) (h2 : Lyr nl nr ng nh m n K F) {v w w' : Nat} (k1 : relQ nr a n q' K J F v w) (k2 : relQ nr a n q' K J F v w') : w = w' := by
 rcases k1 with ⟨u, j, f⟩ | ⟨b, hb, e, hk, hw⟩ <;> rcases k2 with ⟨u', j', f'⟩ | ⟨b', hb', e', hk', hw'⟩
 ·have := h1.f2 _ _ _ j j'
  subst this
  exact h2.f1 _ _ _ f f'
 ·exact (relQ_mix h1 j hb' e' hk').elim
 ·exact (relQ_mix h1 j' hb e hk).elim
 ·have := h1.ni _ _ hb hb' (by rw [e, e'])
  subst this
  rw [← hw, ← hw']
theorem relQ_inj (h1 : Lyr nl nr ny nx p a K J) (h2 : Lyr nl nr ng nh m n K F) (hi : ∀ u u', u < ny → u' < ny → q' u = q' u' → u = u') {v v' w : Nat} (k1 : relQ nr a n q' K J F v w) (k2 : relQ nr a n q' K J F v' w) : v = v' := by
 have key : ∀ u b, F (q' u) w → b < nr → (¬ ∃ b0, K b0 b) → n b = w → False := fun u b f hb hk hw =>
  (h2.r _ (h2.fr _ _ f).2).1 ⟨_, f⟩ ⟨b, hb, hw, hk⟩
 rcases k1 with ⟨u, j, f⟩ | ⟨b, hb, e, hk, hw⟩ <;> rcases k2 with ⟨u', j', f'⟩ | ⟨b', hb', e', hk', hw'⟩
 ·have e := h2.f2 _ _ _ f f'
  have := hi _ _ (h1.fr _ _ j).1 (h1.fr _ _ j').1 e
  subst this
  exact h1.f1 _ _ _ j j'
 ·exact (key _ _ f hb' hk' hw').elim
 ·exact (key _ _ f' hb hk hw).elim
 ·have := h2.ni _ _ hb hb' (by rw [hw, hw'])
  subst this
  rw [← e, ← e']
theorem relQ_at (h1 : Lyr nl nr ny nx p a K J) (h2 : Lyr nl nr ng nh m n K F) (hp : ∀ b, b < nl → q' (p b) = m b) {b : Nat} (hb : b < nr) : relQ nr a n q' K J F (a b) (n b) := by
 by_cases h : ∃ b0, K b0 b
 ·obtain ⟨b0, hk⟩ := h
  refine .inl ⟨p b0, h1.k _ _ hk, ?_⟩
  rw [hp _ (h1.kr _ _ hk).1]
  exact h2.k _ _ hk
 ·exact .inr ⟨b, hb, rfl, h, rfl⟩
theorem relQ_rng (h2 : Lyr nl nr ng nh m n K F) {v w : Nat} (k : relQ nr a n q' K J F v w) : w < nh := by
 rcases k with ⟨u, j, f⟩ | ⟨b, hb, e, hk, hw⟩
 ·exact (h2.fr _ _ f).2
 ·rw [← hw]; exact h2.nr' _ hb
theorem relQ_lyr (h1 : Lyr nl nr ny nx p a K J) (h2 : Lyr nl nr ng nh m n K F) (hr : ∀ u, u < ny → q' u < ng) (hi : ∀ u u', u < ny → u' < ny → q' u = q' u' → u = u') (hp : ∀ b, b < nl → q' (p b) = m b) {q : Nat → Nat} (hq : ∀ v, v < nx → relQ nr a n q' K J F v (q v)) : Lyr ny nx ng nh q' q J F := by
 have hqa : ∀ b, b < nr → q (a b) = n b := fun b hb => relQ_fun h1 h2 (hq _ (h1.nr' _ hb)) (relQ_at h1 h2 hp hb)
 refine ⟨h2.f1, h2.f2, fun b hb => ?_, fun c hc => ?_, fun u v j => ?_, h2.fr, h1.fr, hr, fun v hv => relQ_rng h2 (hq v hv), hi, fun v v' hv hv' e => relQ_inj h1 h2 hi (hq v hv) (by rw [e]; exact hq v' hv')⟩
 ·rw [h2.d b hb]
  refine not_congr ?_
  constructor
  ·rintro ⟨c, hc, e, hk⟩
   exact ⟨p c, h1.mr _ hc, by rw [hp _ hc, e], fun hj => (h1.d _ (h1.mr _ hc)).1 hj ⟨c, hc, rfl, hk⟩⟩
  ·rintro ⟨u, hu, e, hj⟩
   have h3 : ∃ a, a < nl ∧ p a = u ∧ ¬ ∃ a', K a a' := Classical.byContradiction fun hc => hj ((h1.d _ hu).2 hc)
   obtain ⟨c, hc, e2, hk⟩ := h3
   exact ⟨c, hc, by rw [← hp _ hc, e2, e], hk⟩
 ·rw [h2.r c hc]
  refine not_congr ?_
  constructor
  ·rintro ⟨b, hb, e, hk⟩
   exact ⟨a b, h1.nr' _ hb, by rw [hqa _ hb, e], fun hj => (h1.r _ (h1.nr' _ hb)).1 hj ⟨b, hb, rfl, hk⟩⟩
  ·rintro ⟨v, hv, e, hj⟩
   have h3 : ∃ b, b < nr ∧ a b = v ∧ ¬ ∃ a', K a' b := Classical.byContradiction fun hc => hj ((h1.r _ hv).2 hc)
   obtain ⟨b, hb, e2, hk⟩ := h3
   exact ⟨b, hb, by rw [← hqa _ hb, e2, e], hk⟩
 ·obtain ⟨w, hw⟩ := relQ_def h1 h2 hr hi hp j
  have := relQ_fun h1 h2 (hq v (h1.fr _ _ j).2) (.inl ⟨u, j, hw⟩)
  rw [this]
  exact hw
end
def atN (l : List Int) (i : Nat) : Nat := (l.getD i 0).toNat
theorem atN_int {l : List Int} {n i : Nat} (hr : ∀ x ∈ l, 0 ≤ x ∧ x < n) (hi : i < l.length) : ((atN l i : Nat) : Int) = l.getD i 0 ∧ atN l i < n := by
 have := hr _ (getD_mem (d := 0) hi)
 unfold atN
 omega
theorem atN_inj {l : List Int} {n i j : Nat} (hn : l.Nodup) (hr : ∀ x ∈ l, 0 ≤ x ∧ x < n) (hi : i < l.length) (hj : j < l.length) (e : atN l i = atN l j) : i = j := by
 have h1 := atN_int hr hi
 have h2 := atN_int hr hj
 exact getD_inj hn hi hj (by rw [← h1.1, ← h2.1, e])
theorem atN_byK {l h : List Int} {i : Nat} (hi : i < l.length) : atN (byK l h l.length) i = atN h (atN l i) := by
 unfold atN
 rw [byK_getD hi]
structure Stp (l r g h : Gr) (m n : Mo) (KN KE FN FE : Nat → Nat → Prop) : Prop where
 em : Emb l g m
 en : Emb r h n
 ln : Lyr l.nodes.length r.nodes.length g.nodes.length h.nodes.length (atN m.nodes) (atN n.nodes) KN FN
 le : Lyr l.edges.length r.edges.length g.edges.length h.edges.length (atN m.edges) (atN n.edges) KE FE
 ty : ∀ b c, FN b c → g.nodes.getD b 0 = h.nodes.getD c 0
 te : ∀ e f, FE e f → (g.edges.getD e default).ty = (h.edges.getD f default).ty ∧ FN (g.edges.getD e default).fr.toNat (h.edges.getD f default).fr.toNat ∧ FN (g.edges.getD e default).to.toNat (h.edges.getD f default).to.toNat
theorem Stp.symm {l r g h : Gr} {m n : Mo} {KN KE FN FE : Nat → Nat → Prop} (s : Stp l r g h m n KN KE FN FE) : Stp r l h g n m (fun a b => KN b a) (fun a b => KE b a) (fun a b => FN b a) (fun a b => FE b a) :=
 ⟨s.en, s.em, s.ln.symm, s.le.symm, fun b c hf => (s.ty _ _ hf).symm, fun e f hf => have := s.te _ _ hf; ⟨this.1.symm, this.2⟩⟩
theorem Emb.at {a b : Gr} {m : Mo} (h : Emb a b m) {i : Nat} (hi : i < a.nodes.length) : ((atN m.nodes i : Nat) : Int) = m.nodes.getD i 0 ∧ atN m.nodes i < b.nodes.length := atN_int h.vm.n (by rw [h.vm.ln]; exact hi)
theorem Emb.atE {a b : Gr} {m : Mo} (h : Emb a b m) {i : Nat} (hi : i < a.edges.length) : ((atN m.edges i : Nat) : Int) = m.edges.getD i 0 ∧ atN m.edges i < b.edges.length := atN_int h.vm.e (by rw [h.vm.le]; exact hi)
theorem Emb.an {a b : Gr} {m : Mo} (h : Emb a b m) {i : Nat} (hi : i < a.nodes.length) : b.nodes.getD (atN m.nodes i) 0 = a.nodes.getD i 0 := h.vm.nt i hi
theorem Emb.ae {a b : Gr} {m : Mo} (h : Emb a b m) {i : Nat} (hi : i < a.edges.length) : (b.edges.getD (atN m.edges i) default).ty = (a.edges.getD i default).ty ∧ (b.edges.getD (atN m.edges i) default).fr.toNat = atN m.nodes (a.edges.getD i default).fr.toNat ∧ (b.edges.getD (atN m.edges i) default).to.toNat = atN m.nodes (a.edges.getD i default).to.toNat := by
 have := h.vm.et i hi
 unfold atN
 rw [this]
 exact ⟨rfl, rfl, rfl⟩
theorem Emb.ends {a b : Gr} {m : Mo} (h : Emb a b m) {i : Nat} (hi : i < a.edges.length) : (0 ≤ (a.edges.getD i default).fr ∧ (a.edges.getD i default).fr.toNat < a.nodes.length) ∧ 0 ≤ (a.edges.getD i default).to ∧ (a.edges.getD i default).to.toNat < a.nodes.length := by
 have := validG_edges h.vm.va _ (getD_mem (d := default) hi)
 omega
theorem emb_mk {a b : Gr} (va : validG a = 0) (vb : validG b = 0) {f e : Nat → Nat} (fr : ∀ i, i < a.nodes.length → f i < b.nodes.length) (er : ∀ i, i < a.edges.length → e i < b.edges.length)
  (fi : ∀ i j, i < a.nodes.length → j < a.nodes.length → f i = f j → i = j) (ei : ∀ i j, i < a.edges.length → j < a.edges.length → e i = e j → i = j)
  (ft : ∀ i, i < a.nodes.length → b.nodes.getD (f i) 0 = a.nodes.getD i 0)
  (et : ∀ i, i < a.edges.length → (b.edges.getD (e i) default).ty = (a.edges.getD i default).ty ∧ (b.edges.getD (e i) default).fr.toNat = f (a.edges.getD i default).fr.toNat ∧ (b.edges.getD (e i) default).to.toNat = f (a.edges.getD i default).to.toNat) :
  ∃ q, Emb a b q ∧ (∀ i, i < a.nodes.length → atN q.nodes i = f i) ∧ ∀ i, i < a.edges.length → atN q.edges i = e i := by
 have g1 : ∀ (f : Nat → Nat) n i, i < n → ((List.range n).map fun k => ((f k : Nat) : Int)).getD i 0 = f i := fun f n i h => by simp [h]
 have nd : ∀ (f : Nat → Nat) n, (∀ i j, i < n → j < n → f i = f j → i = j) → ((List.range n).map fun k => ((f k : Nat) : Int)).Nodup := fun f n h => by
  rw [nodup_getD]
  intro i j hij hj
  have hj' : j < n := by simpa using hj
  rw [g1 f n i (by omega), g1 f n j hj']
  intro e
  have := h i j (by omega) hj' (by omega)
  omega
 refine ⟨⟨(List.range a.nodes.length).map fun k => ((f k : Nat) : Int), (List.range a.edges.length).map fun k => ((e k : Nat) : Int)⟩, ⟨validM_of ⟨va, vb, by simp, by simp, fun x hx => ?_, fun x hx => ?_, fun i hi => ?_, fun i hi => ?_⟩, nd _ _ fi, nd _ _ ei⟩, fun i hi => ?_, fun i hi => ?_⟩
 ·obtain ⟨k, hk, rfl⟩ := List.mem_map.1 hx
  have := fr k (List.mem_range.1 hk)
  omega
 ·obtain ⟨k, hk, rfl⟩ := List.mem_map.1 hx
  have := er k (List.mem_range.1 hk)
  omega
 ·rw [g1 f _ i hi, Int.toNat_natCast]; exact ft i hi
 ·have hx := validG_edges va _ (getD_mem (d := default) hi)
  have hy := validG_edges vb _ (getD_mem (d := default) (er i hi))
  obtain ⟨t1, t2, t3⟩ := et i hi
  simp only
  rw [g1 e _ i hi, Int.toNat_natCast, g1 f _ _ (by omega), g1 f _ _ (by omega)]
  generalize b.edges.getD (e i) default = be at *
  cases be
  simp only at t1 t2 t3 hy ⊢
  rw [E.mk.injEq]
  exact ⟨t1, by omega, by omega⟩
 ·unfold atN; rw [g1 f _ i hi, Int.toNat_natCast]
 ·unfold atN; rw [g1 e _ i hi, Int.toNat_natCast]
theorem mo_ext {a b : Gr} {q q' : Mo} (h : Emb a b q) (h' : Emb a b q') (hn : ∀ i, i < a.nodes.length → atN q.nodes i = atN q'.nodes i) (he : ∀ i, i < a.edges.length → atN q.edges i = atN q'.edges i) : q = q' := by
 have l1 := h.vm.ln
 have l2 := h'.vm.ln
 have l3 := h.vm.le
 have l4 := h'.vm.le
 have e1 : q.nodes = q'.nodes := ext_getD (by omega) fun j hj => by
  rw [← (h.at (by omega)).1, ← (h'.at (by omega)).1, hn j (by omega)]
 have e2 : q.edges = q'.edges := ext_getD (by omega) fun j hj => by
  rw [← (h.atE (by omega)).1, ← (h'.atE (by omega)).1, he j (by omega)]
 cases q; cases q'
 simp only at e1 e2
 rw [e1, e2]
theorem Stp.ext {l r y x g h : Gr} {p a m n q' : Mo} {KN KE JN JE FN FE : Nat → Nat → Prop} (s1 : Stp l r y x p a KN KE JN JE) (s2 : Stp l r g h m n KN KE FN FE) (hq : Emb y g q') (hp : thenM p q' = m) :
  ∃ q, Emb x h q ∧ thenM a q = n ∧ Stp y x g h q' q JN JE FN FE := by
 have pn : ∀ b, b < l.nodes.length → atN q'.nodes (atN p.nodes b) = atN m.nodes b := fun b hb => by
  rw [← hp]
  exact (atN_byK (by rw [s1.em.vm.ln]; exact hb)).symm
 have pe : ∀ b, b < l.edges.length → atN q'.edges (atN p.edges b) = atN m.edges b := fun b hb => by
  rw [← hp]
  exact (atN_byK (by rw [s1.em.vm.le]; exact hb)).symm
 have rn : ∀ u, u < y.nodes.length → atN q'.nodes u < g.nodes.length := fun u hu => (hq.at hu).2
 have re : ∀ u, u < y.edges.length → atN q'.edges u < g.edges.length := fun u hu => (hq.atE hu).2
 have jn : ∀ u u', u < y.nodes.length → u' < y.nodes.length → atN q'.nodes u = atN q'.nodes u' → u = u' := fun u u' hu hu' e => atN_inj hq.n hq.vm.n (by rw [hq.vm.ln]; exact hu) (by rw [hq.vm.ln]; exact hu') e
 have je : ∀ u u', u < y.edges.length → u' < y.edges.length → atN q'.edges u = atN q'.edges u' → u = u' := fun u u' hu hu' e => atN_inj hq.e hq.vm.e (by rw [hq.vm.le]; exact hu) (by rw [hq.vm.le]; exact hu') e
 have exN : ∀ v, v < x.nodes.length → ∃ w, relQ r.nodes.length (atN a.nodes) (atN n.nodes) (atN q'.nodes) KN JN FN v w := fun v hv => relQ_ex s1.ln s2.ln rn jn pn hv
 have exE : ∀ v, v < x.edges.length → ∃ w, relQ r.edges.length (atN a.edges) (atN n.edges) (atN q'.edges) KE JE FE v w := fun v hv => relQ_ex s1.le s2.le re je pe hv
 obtain ⟨f, hf⟩ : ∃ f : Nat → Nat, ∀ v, v < x.nodes.length → relQ r.nodes.length (atN a.nodes) (atN n.nodes) (atN q'.nodes) KN JN FN v (f v) := by
  classical
  exact ⟨fun v => if hv : v < x.nodes.length then Classical.choose (exN v hv) else 0, fun v hv => by simp only [hv, dif_pos]; exact Classical.choose_spec (exN v hv)⟩
 obtain ⟨e, he⟩ : ∃ e : Nat → Nat, ∀ v, v < x.edges.length → relQ r.edges.length (atN a.edges) (atN n.edges) (atN q'.edges) KE JE FE v (e v) := by
  classical
  exact ⟨fun v => if hv : v < x.edges.length then Classical.choose (exE v hv) else 0, fun v hv => by simp only [hv, dif_pos]; exact Classical.choose_spec (exE v hv)⟩
 have ln := relQ_lyr s1.ln s2.ln rn jn pn hf
 have le := relQ_lyr s1.le s2.le re je pe he
 have fa : ∀ b, b < r.nodes.length → f (atN a.nodes b) = atN n.nodes b := fun b hb => relQ_fun s1.ln s2.ln (hf _ (s1.ln.nr' _ hb)) (relQ_at s1.ln s2.ln pn hb)
 have ea : ∀ b, b < r.edges.length → e (atN a.edges b) = atN n.edges b := fun b hb => relQ_fun s1.le s2.le (he _ (s1.le.nr' _ hb)) (relQ_at s1.le s2.le pe hb)
 obtain ⟨q, q1, q2, q3⟩ := emb_mk (a := x) (b := h) (f := f) (e := e) s1.en.vm.vb s2.en.vm.vb ln.nr' le.nr' ln.ni le.ni (fun v hv => by
   rcases hf v hv with ⟨u, j, k⟩ | ⟨b, hb, e1, _, e2⟩
   ·rw [← s2.ty _ _ k, ← s1.ty _ _ j]
    exact hq.an (s1.ln.fr _ _ j).1
   ·rw [← e2, ← e1, s2.en.an hb, s1.en.an hb]) (fun v hv => by
   rcases he v hv with ⟨u, j, k⟩ | ⟨b, hb, e1, _, e2⟩
   ·obtain ⟨j1, j2, j3⟩ := s1.te _ _ j
    obtain ⟨k1, k2, k3⟩ := s2.te _ _ k
    have hu := (s1.le.fr _ _ j).1
    obtain ⟨a1, a2, a3⟩ := hq.ae hu
    rw [a2] at k2
    rw [a3] at k3
    refine ⟨by rw [← k1, a1, j1], ?_, ?_⟩
    ·exact relQ_fun s1.ln s2.ln (.inl ⟨_, j2, k2⟩) (hf _ (s1.ln.fr _ _ j2).2)
    ·exact relQ_fun s1.ln s2.ln (.inl ⟨_, j3, k3⟩) (hf _ (s1.ln.fr _ _ j3).2)
   ·obtain ⟨a1, a2, a3⟩ := s1.en.ae hb
    obtain ⟨b1, b2, b3⟩ := s2.en.ae hb
    obtain ⟨c1, c2⟩ := s1.en.ends hb
    rw [← e2, ← e1, a1, a2, a3, b1, b2, b3, fa _ c1.2, fa _ c2.2]
    exact ⟨rfl, rfl, rfl⟩)
 have hc : thenM a q = n := mo_ext (s1.en.comp q1) s2.en (fun i hi => by
   show atN (byK a.nodes q.nodes a.nodes.length) i = _
   rw [atN_byK (by rw [s1.en.vm.ln]; exact hi), q2 _ (s1.ln.nr' _ hi), fa _ hi]) (fun i hi => by
   show atN (byK a.edges q.edges a.edges.length) i = _
   rw [atN_byK (by rw [s1.en.vm.le]; exact hi), q3 _ (s1.le.nr' _ hi), ea _ hi])
 have cong : ∀ {n1 n2 n3 n4 : Nat} {m f f' : Nat → Nat} {K F : Nat → Nat → Prop}, Lyr n1 n2 n3 n4 m f K F → (∀ i, i < n2 → f' i = f i) → Lyr n1 n2 n3 n4 m f' K F := fun h e =>
  ⟨h.f1, h.f2, h.d, fun c hc => by
   rw [h.r c hc]
   exact not_congr <| exists_congr fun a => and_congr_right fun ha => by rw [e a ha], fun a a' k => by rw [e _ (h.kr _ _ k).2]; exact h.k _ _ k, h.fr, h.kr, h.mr, fun a ha => by rw [e a ha]; exact h.nr' a ha, h.mi, fun a a' ha ha' k => by rw [e a ha, e a' ha'] at k; exact h.ni _ _ ha ha' k⟩
 exact ⟨q, q1, hc, hq, q1, cong ln q2, cong le q3, s2.ty, s2.te⟩
end Go.AM
namespace Go.AM
open Go
end Go.AM
namespace Go.AM
open Go Go.Proofs
theorem ru_str {s : Sp} (h : SpOk s) (va : validG s.l = 0) (vb : validG s.r = 0) : strR s.ru = 0 := by
 have e1 : validG s.ru.lg = 0 := va
 have e2 : validG s.ru.rg = 0 := vb
 have e3 : validP s.ru.lg s.ru.k = 0 := h.k.v
 have e4 : validM (exG s.ru.lg s.ru.k) s.ru.rg s.ru.i = 0 := h.i.v
 have e5 : injM (exG s.ru.lg s.ru.k) s.ru.rg s.ru.i = true := h.i.inj
 unfold strR
 rw [if_neg (by simp [e1]), if_neg (by simp [e2]), if_neg (by simp [e3]), if_neg (by simp [e4]), if_neg (by simp [e5]), if_pos]
 exact ⟨⟨rfl, rfl⟩, ⟨rfl, rfl⟩, rfl⟩
theorem ru_fit {s : Sp} (h : SpOk s) (va : validG s.l = 0) (vb : validG s.r = 0) : s.ru.Fit := by
 obtain ⟨fl, fr, fk, fi⟩ := h.fit
 exact ⟨fl, fr, fk, fi, by rw [bigN_eq]; simp [Sp.ru], by rw [bigN_eq]; simp [Sp.ru], by rw [bigN_eq]; simp [Sp.ru], by rw [bigN_eq]; simp [Sp.ru]⟩
end Go.AM
namespace Go.AM
open Go Go.Proofs
def RS (n : Int) (s t : St2) : Prop := (s.2 = 0 ∧ t.2 = 0 ∧ s.1 + t.1 = 2000 ∧ 0 ≤ s.1 ∧ s.1 ≤ n) ∨ (s.2 = 3 ∧ t.2 = 3)
theorem RS.up {n m : Int} {s t : St2} (h : RS n s t) (hnm : n ≤ m) : RS m s t := by
 rcases h with ⟨h1, h2, h3, h4, h5⟩ | h
 ·exact .inl ⟨h1, h2, h3, h4, by omega⟩
 ·exact .inr h
theorem RS.zero {n : Int} {s t : St2} (h : RS n s t) (h0 : s.2 = 0) : t.2 = 0 := by
 rcases h with h | h
 ·exact h.2.1
 ·rw [h.1] at h0; cases h0
end Go.AM
namespace Go.AM
open Go Go.Proofs
theorem nil_fb (k : Int) : (cdOf k []).Fit ∧ (cdOf k []).Bare := ⟨cdOf_fit (by rw [kidN_eq]; simp) (by simp), bare_cdOf (by simp)⟩
end Go.AM
namespace Go.AM
open Go Go.Proofs
end Go.AM
namespace Go.AM
open Go Go.Proofs Go.ChangeShapes
structure At.Big (a : At) : Prop where
 n : a.name.size ≤ maxLen
 l : a.names.length ≤ bigN
 s : ∀ x ∈ a.names, x.size ≤ maxLen
structure NT.Big (x : NT) : Prop where
 n : x.name.size ≤ maxLen
 l : x.own.length ≤ bigN
 a : ∀ y ∈ x.own, y.Big
structure Ty.Big (t : Ty) : Prop where
 n : t.nodes.length ≤ bigN
 e : t.edges.length ≤ bigN
 nn : ∀ x ∈ t.nodes, x.Big
 en : ∀ x ∈ t.edges, x.name.size ≤ maxLen
end Go.AM
namespace Go.AM
open Go Go.Proofs Go.ChangeShapes
theorem appL_len {t : Ty} {r : Ru} (hn : r.lg.nodes.length ≤ 40) (h1 : t.nodes.length ≤ 12) (h2 : t.edges.length ≤ 20) : (appL t r).length ≤ 83200 := by
 have h3 := flatN_le (f := appI t r.lg r.k.nodes) (fun k => appI_len hn h1 h2 _ k) r.lg.nodes.length
 have h4 : r.lg.nodes.length * 2080 ≤ 40 * 2080 := Nat.mul_le_mul_right _ (by omega)
 rw [appL]
 omega
theorem exX_bare (g x : Gr) : (exX g x).Bare := bare_cdOf fun y hy => by
 rw [List.mem_singleton] at hy
 subst hy
 exact .mk rfl rfl fun z hz => by
  rw [show (Cd.mk 5 [cdOf 1 []] (idM g) x [] 0 []).kids = [cdOf 1 []] from rfl, List.mem_singleton] at hz
  subst hz
  exact (nil_fb 1).2
theorem appC_bare (t : Ty) (r : Ru) : (appC t r).Bare := bare_cdOf fun y hy => by
 obtain ⟨x, _, rfl⟩ := List.mem_map.1 hy
 exact exX_bare _ _
theorem appR_fb {t : Ty} {r : Ru} : (appR t r).1.Fit ∧ (appR t r).1.Bare := by
 unfold appR
 split
 ·exact nil_fb 0
 ·rename_i h1
  split
  ·exact nil_fb 0
  ·split
   ·exact nil_fb 1
   ·split
    ·exact nil_fb 0
    ·obtain ⟨z1, z2, _⟩ := tpdE_zero (Decidable.not_not.1 h1)
     have v1 := (strR_valid z2).1
     have hl := (validG_types v1).1
     have hs := tyE_small z1
     exact ⟨appC_fit (t := t) hl.1 hl.2 (appL_len hl.1 hs.1 hs.2), appC_bare t r⟩
end Go.AM
namespace Go.AM
open Go Go.Proofs
theorem thr_fitW : thrT.Fit := ⟨by decide, by decide, by decide, by decide, by simp [thrT]⟩
def upS (s : Sp) : Sp := ⟨upG s.l, upG s.r, s.k, s.i⟩
set_option maxRecDepth 100000 in
theorem lawDangles_c (x : Scn) (hx : x.U8) (tok : Tks) (nt : Nat) : ∃ tok' nt', DCall Tryz.prog 8 [x.av] tok nt (B true) tok' nt' := by
 refine ⟨tok, nt, ?_⟩
 intro box nb
 have hsc := scene34_c x hx
 obtain ⟨st, i1, i2, i3⟩ := Scn.stg hx
 have h1 := st.n; have h2 := st.e; have h3 := st.rn; have h4 := st.re; have h5 := st.gn; have h6 := st.ge
 have fl : x.r.sp.l.Fit := ⟨by omega, by omega⟩
 have fr : x.r.sp.r.Fit := ⟨by omega, by omega⟩
 have fg : x.g.Fit := ⟨by omega, by omega⟩
 have fm : (idM x.r.g).Fit := ⟨by simp [idM]; exact Nat.le_trans h1 (by decide), by simp [idM]; exact Nat.le_trans h2 (by decide)⟩
 have u1 := up34_c _ fl i1
 have u2 := up34_c _ fr i2
 have u3 := up34_c _ fg i3
 have su : Stg (upS x.r.sp) (upG x.g) := st.up i1 i2 i3
 have hs := su.spok
 have hm : Emb (upG x.r.g) (upG x.g) (idM (upG x.r.g)) := su.lg.emb
 rw [upG_id] at hm
 have va := su.lg.va
 have vb := hs.i.vm.vb
 have hstr := ru_str hs va vb
 have hrf := ru_fit hs va vb
 have hap := applicable_c thrT thr_fitW (upS x.r.sp).ru hrf
 have hlaw := dang_law (r := (upS x.r.sp).ru) (g := upG x.g) (m := idM x.r.g) hstr hm (upG_thr i1) (upG_thr i2) (upG_thr i3) (by rw [show ((upS x.r.sp).ru.lg.nodes.length) = (upG x.r.sp.l).nodes.length from rfl, upG_len]; exact h1) h2
 have hcf := (appR_fb (t := thrT) (r := (upS x.r.sp).ru)).1
 have hst := satisfies_c (upG x.r.g) (appR thrT (upS x.r.sp).ru).1 (upG x.g) (idM x.r.g) (upG_fit fl) hcf (upG_fit fg) fm
 have hdn := danglingP_c (upG x.r.g) (upG x.g) x.r.k (idM x.r.g) (upG_fit fl) (upG_fit fg) fm (hs.k.emb.fit.1) hm hs.k
 obtain ⟨l1, l2⟩ := hlaw
 have k1 : satR (upG x.r.g) (appR thrT (upS x.r.sp).ru).1 (upG x.g) (idM x.r.g) = (decide ((dangI (upG x.g) x.r.k (idM x.r.g) (upG x.g).edges.length).length = 0), 0) := l2
 rw [k1] at hst
 rw [l1] at hap
 have hawake : ∀ tok nt, DCall Tryz.prog 11 [] tok nt (B true) tok nt := awake34_c
 refine sB Tryz.func8 Tryz.ntmps8 ?_
 intro hbox htok
 simp only at hbox htok
 apply AL.start
 try (simp)
 repeat (refine sR ?_; simp)
 refine Stop.of_d (awake34_c _ _) ?_
 simp
 try (simp)
 repeat (refine sR ?_; simp)
 refine sC ?_
 simp
 try (simp)
 repeat (refine sR ?_; simp)
 refine Stop.of_d (hsc _ _) ?_
 simp
 try (simp)
 repeat (refine sR ?_; simp)
 refine Stop.of_d (u1 _ _) ?_
 simp
 try (simp)
 repeat (refine sR ?_; simp)
 refine Stop.of_d (u2 _ _) ?_
 simp
 try (simp)
 repeat (refine sR ?_; simp)
 refine Stop.of_d (u3 _ _) ?_
 simp
 try (simp)
 repeat (refine sR ?_; simp)
 refine Stop.of_d (three34_c _ _) ?_
 simp
 try (simp)
 repeat (refine sR ?_; simp)
 refine Stop.of_d (hap _ _) ?_
 simp
 try (simp)
 repeat (refine sR ?_; simp)
 refine Stop.of_d (hst _ _) ?_
 simp
 try (simp)
 repeat (refine sR ?_; simp)
 refine Stop.of_d (hdn _ _) ?_
 simp
 try (simp)
 repeat (refine sR ?_; simp)
 have hfin : ∀ D : List Int, (decide (D = []) == ((D.length : Int) == 0)) = true := fun D => by cases D <;> simp <;> omega
 refine sT ?_
 try simp only [AU]
 refine ⟨by simp, sF hbox htok (fun _ h => h) (Nat.le_refl _) ?_⟩
 simp [packA, hfin]
end Go.AM
