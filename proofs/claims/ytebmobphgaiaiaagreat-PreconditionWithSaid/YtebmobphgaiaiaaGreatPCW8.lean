/-
 Parts of the proof, as merged from many texts: a machine over data, what the functions compute, plain laws.
-/
import Derived.Test.YtebmobphgaiaiaaGreatPCW7
set_option linter.unusedSimpArgs false
set_option linter.unusedVariables false
namespace Go.AM
open Go
structure Sp where
 l : Gr
 r : Gr
 k : Mo
 i : Mo
structure SpOk (s : Sp) : Prop where
 k : VP s.l s.k
 i : Emb (exG s.l s.k) s.r s.i
def Sp.z (s : Sp) (m : Mo) (x : Gr) : Mo := cmpl x (imgP s.r s.i) m
def Sp.dng (s : Sp) (m : Mo) (x : Gr) : Bool := dangL x (imgP s.r s.i) m
def Sp.rest (s : Sp) (m : Mo) (x : Gr) : Gr := exG x (s.z m x)
def Sp.go (s : Sp) (m : Mo) (x : Gr) : Mo := liftM (s.z m x) (thenM s.i m)
def Sp.big (s : Sp) (m : Mo) (x : Gr) : Prop := 40 < s.l.nodes.length + (s.rest m x).nodes.length ∨ 80 < s.l.edges.length + (s.rest m x).edges.length
instance (s : Sp) (m : Mo) (x : Gr) : Decidable (s.big m x) := inferInstanceAs (Decidable (_ ∨ _))
def Sp.po (s : Sp) (m : Mo) (x : Gr) : Ov := pushO s.l (s.rest m x) s.k (s.go m x)
def Sp.inn (s : Sp) (m : Mo) (x : Gr) : Sp := ⟨(s.po m x).g, x, imgP (s.po m x).g (s.po m x).r, thenM (liftM (s.po m x).r (imgP (s.po m x).g (s.po m x).r)) (s.z m x)⟩
theorem VP.sub {g : Gr} {p : Mo} (h : VP g p) : Emb (exG g p) g p := h.emb
theorem Sp.z_vp {s : Sp} (h : SpOk s) {m : Mo} {x : Gr} (hm : Emb s.r x m) (hd : s.dng m x = false) : VP x (s.z m x) := cmpl_vp hm (imgP_vp h.i) hd
theorem keep_mem {F images : List Int} {n m : Nat} (hn : images.Nodup) (hi : images.length = n) (rF : ∀ x ∈ F, 0 ≤ x ∧ x < n) (hr : ∀ x ∈ images, 0 ≤ x ∧ x < m) : ∀ x ∈ byK F images F.length, x ∈ restI m images (ascL F n) := fun x hx => by
 obtain ⟨i, hi', rfl⟩ := mem_getD hx
 rw [byK_all] at hi'
 rw [byK_getD hi']
 have h1 := rF _ (getD_mem (d := 0) hi')
 have h2 : (F.getD i 0).toNat < images.length := by omega
 refine restI_mem.2 ⟨hr _ (getD_mem (d := 0) h2), kept_not_gone hn h2 (ascL_mem.2 ⟨?_, ?_⟩)⟩
 ·rw [show (((F.getD i 0).toNat : Nat) : Int) = F.getD i 0 by omega]; exact getD_mem hi'
 ·omega
theorem Sp.go_sub {s : Sp} (h : SpOk s) {m : Mo} {x : Gr} (hm : Emb s.r x m) : (∀ v ∈ (thenM s.i m).nodes, v ∈ (s.z m x).nodes) ∧ ∀ v ∈ (thenM s.i m).edges, v ∈ (s.z m x).edges := by
 have v := hm.vm
 have w := h.i.vm
 exact ⟨keep_mem hm.n v.ln w.n v.n, keep_mem hm.e v.le w.e v.e⟩
theorem Sp.go_emb {s : Sp} (h : SpOk s) {m : Mo} {x : Gr} (hm : Emb s.r x m) (hd : s.dng m x = false) : Emb (exG s.l s.k) (s.rest m x) (s.go m x) :=
 lift_emb (Sp.z_vp h hm hd).emb (h.i.comp hm) (Sp.go_sub h hm).1 (Sp.go_sub h hm).2
theorem Sp.po_emb {s : Sp} (h : SpOk s) {m : Mo} {x : Gr} (hm : Emb s.r x m) (hd : s.dng m x = false) (hb : ¬ s.big m x) :
  validG (s.po m x).g = 0 ∧ Emb s.l (s.po m x).g (s.po m x).l ∧ Emb (s.rest m x) (s.po m x).g (s.po m x).r :=
 pushO_emb h.k.emb (Sp.go_emb h hm hd) (by unfold Sp.big at hb; omega)
theorem Sp.inn_ok {s : Sp} (h : SpOk s) {m : Mo} {x : Gr} (hm : Emb s.r x m) (hd : s.dng m x = false) (hb : ¬ s.big m x) : SpOk (s.inn m x) := by
 obtain ⟨h1, h2, h3⟩ := Sp.po_emb h hm hd hb
 have hk := imgP_vp h3
 exact ⟨hk, (lift_emb h3 hk.emb imgP_sub.1 imgP_sub.2).comp (Sp.z_vp h hm hd).emb⟩
abbrev noC : Cd := cdOf 2 [cdOf 1 []]
def kidsE (f : Cd → Cd × Int) : List Cd → List Cd × Int
 | [] => ([], 0)
 | x :: r => if (f x).2 ≠ 0 then ([], (f x).2) else if (kidsE f r).2 ≠ 0 then ([], (kidsE f r).2) else ((f x).1 :: (kidsE f r).1, 0)
def lftStep (k : Int) (m : Mo) (g : Gr) (s : Sp) (L H : Sp → List Cd × Int) : Cd × Int :=
 if k ≠ 5 then (if (L s).2 ≠ 0 then (cdOf 0 [], (L s).2) else (cdOf k (L s).1, 0))
 else if s.dng m g = true then (noC, 0) else if s.big m g then (cdOf 0 [], 3)
 else if (H (s.inn m g)).2 ≠ 0 then (cdOf 0 [], (H (s.inn m g)).2) else (.mk 5 (H (s.inn m g)).1 (s.po m g).l (s.po m g).g [] 0 [], 0)
mutual
def Cd.lft : Cd → Sp → Cd × Int
 | .mk k c m g _ _ _, s => lftStep k m g s (fun s => Cd.lftL c s) (fun s => Cd.lftL c s)
def Cd.lftL : List Cd → Sp → List Cd × Int
 | [], _ => ([], 0)
 | x :: r, s => if (Cd.lft x s).2 ≠ 0 then ([], (Cd.lft x s).2) else if (Cd.lftL r s).2 ≠ 0 then ([], (Cd.lftL r s).2) else ((Cd.lft x s).1 :: (Cd.lftL r s).1, 0)
end
theorem Cd.lftL_eq (s : Sp) : ∀ l : List Cd, Cd.lftL l s = kidsE (fun x => Cd.lft x s) l
 | [] => by simp [Cd.lftL, kidsE]
 | x :: r => by simp [Cd.lftL, kidsE, Cd.lftL_eq s r]
theorem Cd.lft_eq (c : Cd) (s : Sp) : c.lft s = lftStep c.kind c.m c.g s (fun s => kidsE (fun x => Cd.lft x s) c.kids) (fun s => kidsE (fun x => Cd.lft x s) c.kids) := by
 cases c
 simp only [Cd.lft, Cd.lftL_eq]
 rfl
theorem kidsE_all {f : Cd → Cd × Int} : ∀ {l : List Cd}, (kidsE f l).2 = 0 → (kidsE f l).1 = l.map (fun x => (f x).1) ∧ ∀ x ∈ l, (f x).2 = 0
 | [], _ => ⟨rfl, by simp⟩
 | x :: r, h => by
  unfold kidsE at h ⊢
  split at h
  ·contradiction
  ·rename_i h1
   split at h
   ·contradiction
   ·rename_i h2
    obtain ⟨i1, i2⟩ := kidsE_all (Decidable.not_not.1 h2)
    rw [if_neg h1, if_neg h2]
    refine ⟨by rw [i1]; rfl, fun y hy => ?_⟩
    rcases List.mem_cons.1 hy with rfl | hy
    ·exact Decidable.not_not.1 h1
    ·exact i2 y hy
theorem kidsE_of {f : Cd → Cd × Int} : ∀ {l : List Cd}, (∀ x ∈ l, (f x).2 = 0) → kidsE f l = (l.map (fun x => (f x).1), 0)
 | [], _ => rfl
 | x :: r, h => by
  have h1 := h x (by simp)
  have ih := kidsE_of (f := f) (l := r) fun y hy => h y (by simp [hy])
  unfold kidsE
  rw [if_neg (by simp [h1]), if_neg (by simp [ih]), ih]
  rfl
theorem kidsE_at {f : Cd → Cd × Int} : ∀ {l : List Cd} {i : Nat} (hi : i < l.length), (∀ x ∈ l.take i, (f x).2 = 0) → (f l[i]).2 ≠ 0 → kidsE f l = ([], (f l[i]).2)
 | x :: r, 0, _, _, h => by
  unfold kidsE
  rw [if_pos (by simpa using h)]
  rfl
 | x :: r, i + 1, hi, ht, h => by
  have h1 := ht x (by simp)
  have hi' : i < r.length := by simpa using hi
  have ih := kidsE_at (f := f) (l := r) (i := i) hi' (fun y hy => ht y (by simp [hy])) (by simpa using h)
  unfold kidsE
  rw [if_neg (by simp [h1]), ih]
  have h2 : (f r[i]).2 ≠ 0 := by simpa using h
  rw [if_pos (by simpa using h2)]
  rfl
structure LftOk (g : Gr) (c : Cd) : Prop where
 ovr : c.ovr g = 0
 fit : c.Fit
 bare : c.Bare
theorem noC_ok (g : Gr) : LftOk g noC :=
 ⟨Cd.ovr_of rfl rfl fun x hx => by
  have : x = cdOf 1 [] := by simpa [cdOf, Cd.kids] using hx
  subst this
  exact Cd.ovr_of rfl rfl (by simp [cdOf, Cd.kids]),
  cdOf_fit (by rw [kidN_eq]; simp) (by simpa using cdOf_fit (k := 1) (l := []) (by rw [kidN_eq]; simp) (by simp)), bare_cdOf (by simpa using bare_cdOf (k := 1) (l := []) (by simp))⟩
theorem lft_ok : ∀ (n : Nat) (c : Cd), SizeOf.sizeOf c < n → c.Fit → ∀ s, SpOk s → c.ovr s.r = 0 → (c.lft s).2 = 0 → LftOk s.l (c.lft s).1
 | 0, c, hn, _, _, _, _, _ => absurd hn (Nat.not_lt_zero _)
 | n + 1, c, hn, hf, s, hs, hv, hz => by
  have ih := fun x (hx : x ∈ c.kids) => lft_ok n x (by have := Cd.kid_lt hx; omega) (hf.kid x hx)
  have hkl := hf.kids
  obtain ⟨h0, h1, h2⟩ := Cd.ovr_zero hv
  rw [c.lft_eq] at hz ⊢
  unfold lftStep at hz ⊢
  by_cases k5 : c.kind = 5
  ·rw [if_neg (by simp [k5])] at hz ⊢
   obtain ⟨hm, x, hkx⟩ := ovr_ex hv k5
   by_cases hd : s.dng c.m c.g = true
   ·rw [if_pos hd]; exact noC_ok _
   ·rw [if_neg hd] at hz ⊢
    have hd' : s.dng c.m c.g = false := by simpa using hd
    by_cases hb : s.big c.m c.g
    ·rw [if_pos hb] at hz; cases hz
    ·rw [if_neg hb] at hz ⊢
     have hk := Sp.inn_ok hs hm hd' hb
     obtain ⟨p1, p2, p3⟩ := Sp.po_emb hs hm hd' hb
     split at hz
     ·contradiction
     ·rename_i h3
      rw [if_neg h3]
      have h3' := Decidable.not_not.1 h3
      rw [hkx] at h3' ⊢
      obtain ⟨e1, e2⟩ := kidsE_all h3'
      have hi : c.inn s.r = c.g := if_pos k5
      rw [hi] at h2
      have hx := ih x (by rw [hkx]; simp) (s.inn c.m c.g) hk (h2 x (by rw [hkx]; simp)) (e2 x (by simp))
      simp only [e1, List.map_cons, List.map_nil]
      have hg := (validG_types p1).1
      have hll : (s.po c.m c.g).l.nodes.length ≤ 40 ∧ (s.po c.m c.g).l.edges.length ≤ 80 := by
       have := p2.vm
       have := (validG_types this.va).1
       have := p2.vm.ln
       have := p2.vm.le
       omega
      refine ⟨Cd.ovr_of rfl ?_ fun y hy => ?_, .mk (by rw [kidN_eq]; simp [Cd.kids]) ⟨by show (s.po c.m c.g).l.nodes.length ≤ 1000000; omega, by show (s.po c.m c.g).l.edges.length ≤ 1000000; omega⟩ ⟨by show (s.po c.m c.g).g.nodes.length ≤ 1000000; omega, by show (s.po c.m c.g).g.edges.length ≤ 1000000; omega⟩ (by rw [bigN_eq]; simp [Cd.sl]) (by rw [bigN_eq]; simp [Cd.te]) fun y hy => ?_, .mk rfl rfl fun y hy => ?_⟩
      ·show ovrStep s.l 5 (s.po c.m c.g).l (s.po c.m c.g).g = 0
       rw [ovrStep, if_pos rfl, if_neg (by simp [p2.v]), if_pos p2.inj]
      ·have : y = (x.lft (s.inn c.m c.g)).1 := by simpa [Cd.kids] using hy
       subst this
       exact hx.ovr
      ·have : y = (x.lft (s.inn c.m c.g)).1 := by simpa [Cd.kids] using hy
       subst this
       exact hx.fit
      ·have : y = (x.lft (s.inn c.m c.g)).1 := by simpa [Cd.kids] using hy
       subst this
       exact hx.bare
  ·rw [if_pos k5] at hz ⊢
   split at hz
   ·contradiction
   ·rename_i h3
    rw [if_neg h3]
    obtain ⟨e1, e2⟩ := kidsE_all (Decidable.not_not.1 h3)
    have hi : c.inn s.r = s.r := if_neg k5
    rw [hi] at h2
    have key : ∀ y ∈ c.kids.map (fun x => (x.lft s).1), LftOk s.l y := fun y hy => by
     obtain ⟨x, hx, rfl⟩ := List.mem_map.1 hy
     exact ih x hx s hs (h2 x hx) (e2 x hx)
    simp only [e1]
    refine ⟨Cd.ovr_of (shape_cdOf h0 k5 (by simp)) (if_neg k5) fun y hy => ?_, cdOf_fit (by simpa using hkl) fun y hy => (key y hy).fit, bare_cdOf fun y hy => (key y hy).bare⟩
    rw [Cd.inn, if_neg (show ¬ (cdOf c.kind (c.kids.map (fun x => (x.lft s).1))).kind = 5 from k5)]
    exact (key y hy).ovr
end Go.AM
namespace Go.AM
open Go Go.Proofs
def stH7 (xs : List Int) (v : Int) (nb : Nat) (box : Bxs) (tok : Tks) (nt : Nat) (i : Nat) : AState := ⟨tl [(0, .d (ints xs)), (1, I v), (5, I i)], lb nb box [], tok, nt⟩
theorem has07_c (xs : List Int) (v : Int) (hx : xs.length ≤ 1000000) (tok : Tks) (nt : Nat) : DCall Tryz.prog 242 [.d (ints xs), I v] tok nt (B (decide (v ∈ xs))) tok nt := by
 intro box nb
 refine sB Tryz.func242 Tryz.ntmps242 ?_
 intro hbox htok
 simp only at hbox htok
 apply AL.start
 refine sR ?_
 simp
 refine sR ?_
 simp
 refine sN ?_
 refine AL.loopT (stH7 xs v nb box tok nt) (fun i => i ≤ xs.length ∧ v ∉ xs.take i) (fun i => xs.length - i) 0 ⟨Nat.zero_le _, by simp⟩ (Weaks.mk (Nat.le_refl _) rfl (by simp [ToL]) trivial) ?_
 rintro i S ⟨hi, htk⟩ hS
 simp only [stH7] at hS
 subst hS
 have hw := sW (i := i) (by omega)
 refine sR ?_
 simp
 refine sC ?_
 simp
 refine ⟨fun hlt => ?_, fun hge => ?_⟩
 ·refine sR ?_
  simp [hlt]
  refine sC ?_
  simp
  refine ⟨fun he => ?_, fun hne => ?_⟩
  ·refine sR ?_
   simp
   have hmem : v ∈ xs := by rw [← he]; exact List.getElem_mem _
   refine sT ?_
   try simp only [AU]
   refine ⟨by simp, sF hbox htok (fun _ h => h) (Nat.le_refl _) ?_⟩
   simp [packA, hmem]
  ·refine sR ?_
   simp [hw]
   refine sE ?_
   refine ⟨i + 1, ⟨hlt, ?_⟩, by omega, Weaks.mk (Nat.le_refl _) rfl (by simp [ToL]) trivial⟩
   rw [List.take_succ_eq_append_getElem hlt]
   simp only [List.mem_append, List.mem_singleton, not_or]
   exact ⟨htk, fun e => hne e.symm⟩
 ·refine sX ?_
  simp only [AU, ↓reduceIte]
  refine sR ?_
  simp
  have hn : v ∉ xs := by rwa [List.take_of_length_le hge] at htk
  refine sT ?_
  try simp only [AU]
  refine ⟨by simp, sF hbox htok (fun _ h => h) (Nat.le_refl _) ?_⟩
  simp [packA, hn]
def stI7 (xs : List Int) (v : Int) (nb : Nat) (box : Bxs) (tok : Tks) (nt : Nat) (i : Nat) : AState := ⟨tl [(0, .d (ints xs)), (1, I v), (5, I i)], lb nb box [], tok, nt⟩
theorem index07_c (xs : List Int) (v : Int) (hx : xs.length ≤ 1000000) (tok : Tks) (nt : Nat) : DCall Tryz.prog 105 [.d (ints xs), I v] tok nt (I (indexI xs v)) tok nt := by
 intro box nb
 refine sB Tryz.func105 Tryz.ntmps105 ?_
 intro hbox htok
 simp only at hbox htok
 apply AL.start
 refine sR ?_
 simp
 refine sR ?_
 simp
 refine sN ?_
 refine AL.loopT (stI7 xs v nb box tok nt) (fun i => i ≤ xs.length ∧ v ∉ xs.take i) (fun i => xs.length - i) 0 ⟨Nat.zero_le _, by simp⟩ (Weaks.mk (Nat.le_refl _) rfl (by simp [ToL]) trivial) ?_
 rintro i S ⟨hi, htk⟩ hS
 simp only [stI7] at hS
 subst hS
 have hw := sW (i := i) (by omega)
 refine sR ?_
 simp
 refine sC ?_
 simp
 refine ⟨fun hlt => ?_, fun hge => ?_⟩
 ·have hsp : xs = xs.take i ++ xs[i] :: xs.drop (i + 1) := by simp
  refine sR ?_
  simp [hlt]
  refine sC ?_
  simp
  refine ⟨fun he => ?_, fun hne => ?_⟩
  ·refine sR ?_
   simp
   have hmem : v ∈ xs := by rw [← he]; exact List.getElem_mem _
   have hid : xs.idxOf v = i := by
    unfold List.idxOf
    rw [List.findIdx_eq hlt]
    refine ⟨by simp [he], fun j hj => ?_⟩
    have : xs[j] ≠ v := fun e => htk (by rw [← e, List.mem_take_iff_getElem]; exact ⟨j, by omega, rfl⟩)
    simpa using this
   refine sT ?_
   try simp only [AU]
   refine ⟨by simp, sF hbox htok (fun _ h => h) (Nat.le_refl _) ?_⟩
   simp [packA, indexI, hmem, hid]
  ·refine sR ?_
   simp [hw]
   refine sE ?_
   refine ⟨i + 1, ⟨hlt, ?_⟩, by omega, Weaks.mk (Nat.le_refl _) rfl (by simp [ToL]) trivial⟩
   rw [List.take_succ_eq_append_getElem hlt]
   simp only [List.mem_append, List.mem_singleton, not_or]
   exact ⟨htk, fun e => hne e.symm⟩
 ·refine sX ?_
  simp only [AU, ↓reduceIte]
  refine sR ?_
  simp
  have hn : v ∉ xs := by rwa [List.take_of_length_le hge] at htk
  refine sT ?_
  try simp only [AU]
  refine ⟨by simp, sF hbox htok (fun _ h => h) (Nat.le_refl _) ?_⟩
  simp [packA, indexI, hn]
def stAs (l : List Int) (n : Int) (nb : Nat) (box : Bxs) (tok : Tks) (nt : Nat) (i : Nat) : AState := ⟨tl [(0, .d (ints l)), (1, I n), (5, I i)], lb nb box [], tok, nt⟩
theorem asc07_c (l : List Int) (n : Int) (hl : l.length ≤ 1000000) (tok : Tks) (nt : Nat) : DCall Tryz.prog 241 [.d (ints l), I n] tok nt (I (ascE l n)) tok nt := by
 intro box nb
 refine sB Tryz.func241 Tryz.ntmps241 ?_
 intro hbox htok
 simp only at hbox htok
 apply AL.start
 try (simp)
 repeat (refine sR ?_; simp)
 refine sN ?_
 refine AL.loopT (stAs l n nb box tok nt) (fun i => i ≤ l.length ∧ firstE (ascAt l n) i = 0) (fun i => l.length - i) 0 ⟨Nat.zero_le _, rfl⟩ (Weaks.mk (Nat.le_refl _) rfl (by simp [ToL]) trivial) ?_
 rintro i S ⟨hi, hok⟩ hS
 simp only [stAs] at hS
 subst hS
 have hw := sW (i := i) (by omega)
 have hR : i < l.length → ascAt l n i ≠ 0 → ascE l n = ascAt l n i := fun hlt h0 => firstE_stop hok h0 l.length hlt
 try (simp)
 repeat (refine sR ?_; simp)
 refine sC ?_
 simp
 refine ⟨fun hlt => ?_, fun hge => ?_⟩
 ·have hg : l.getD i 0 = l[i] := by simp [hlt]
  have hR := hR hlt
  have hA : ascAt l n i = if l[i] < 0 ∨ n ≤ l[i] then 6 else if 0 < i ∧ l[i] ≤ l.getD (i - 1) 0 then 12 else 0 := by rw [ascAt, hg]
  try (simp [hlt])
  repeat (refine sR ?_; simp [hlt])
  by_cases hneg : l[i] < 0
  ·try (simp [hneg, hlt])
   repeat (refine sR ?_; simp [hneg, hlt])
   refine sC ?_
   simp
   try (simp)
   repeat (refine sR ?_; simp)
   rw [hA, if_pos (.inl hneg)] at hR
   have hR := hR (by decide)
   refine sT ?_
   try simp only [AU]
   refine ⟨by simp, sF hbox htok (fun _ h => h) (Nat.le_refl _) ?_⟩
   simp [packA, hR]
  ·try (simp [hneg, hlt])
   repeat (refine sR ?_; simp [hneg, hlt])
   by_cases hbig : n ≤ l[i]
   ·simp only [hbig]
    refine sC ?_
    simp
    try (simp)
    repeat (refine sR ?_; simp)
    rw [hA, if_pos (.inr hbig)] at hR
    have hR := hR (by decide)
    refine sT ?_
    try simp only [AU]
    refine ⟨by simp, sF hbox htok (fun _ h => h) (Nat.le_refl _) ?_⟩
    simp [packA, hR]
   ·simp only [hbig]
    rw [if_neg (by omega)] at hA
    refine sC ?_
    simp
    by_cases h0 : 0 < i
    ·have hw' : IntKind.i64.wrap (↑i - 1) = ((i - 1 : Nat) : Int) := by rw [wrap_in (by omega) (by omega)]; omega
     have hlt' : i - 1 < l.length := by omega
     have hg' : l.getD (i - 1) 0 = l[i - 1] := by simp [hlt']
     rw [hg'] at hA
     try (simp [hlt, h0, hw', hlt'])
     repeat (refine sR ?_; simp [hlt, h0, hw', hlt'])
     by_cases hle : l[i] ≤ l[i - 1]
     ·rw [if_pos ⟨h0, hle⟩] at hA
      rw [hA] at hR
      have hR := hR (by decide)
      simp only [hle]
      refine sC ?_
      simp
      try (simp)
      repeat (refine sR ?_; simp)
      refine sT ?_
      try simp only [AU]
      refine ⟨by simp, sF hbox htok (fun _ h => h) (Nat.le_refl _) ?_⟩
      simp [packA, hR]
     ·rw [if_neg (by omega)] at hA
      simp only [hle]
      refine sC ?_
      simp
      try (simp [hw])
      repeat (refine sR ?_; simp [hw])
      refine sE ?_
      exact ⟨i + 1, ⟨hlt, by simp only [firstE, hok, hA, ↓reduceIte]⟩, by omega, Weaks.mk (Nat.le_refl _) rfl (by simp [ToL]) trivial⟩
    ·rw [if_neg (by omega)] at hA
     try (simp [hlt, h0])
     repeat (refine sR ?_; simp [hlt, h0])
     refine sC ?_
     simp
     try (simp [hw])
     repeat (refine sR ?_; simp [hw])
     refine sE ?_
     exact ⟨i + 1, ⟨hlt, by simp only [firstE, hok, hA, ↓reduceIte]⟩, by omega, Weaks.mk (Nat.le_refl _) rfl (by simp [ToL]) trivial⟩
 ·refine sX ?_
  simp only [AU, ↓reduceIte]
  try (simp)
  repeat (refine sR ?_; simp)
  have : i = l.length := by omega
  subst this
  refine sT ?_
  try simp only [AU]
  refine ⟨by simp, sF hbox htok (fun _ h => h) (Nat.le_refl _) ?_⟩
  simp [packA, ascE, hok]
def stRi (g : Gr) (p : Mo) (nb : Nat) (box : Bxs) (tok : Tks) (nt : Nat) (i : Nat) : AState :=
 ⟨tl [(7, I i), (3, .ptr (nb + 3) 0 0), (2, .ptr (nb + 2) 0 0)], lb nb box [(3, [[.d (ints p.nodes), .d (ints p.edges)]]), (2, [[.d (ints g.nodes), .d (AM.edges g.edges)]])], tok, nt⟩
theorem right07_c (g : Gr) (p : Mo) (hg : g.Fit) (hv : validG g = 0) (hp : p.Fit) (tok : Tks) (nt : Nat) : DCall Tryz.prog 186 [g.av, p.av] tok nt (I (rightP g p)) tok nt := by
 intro box nb
 have h1 := asc07_c p.nodes g.nodes.length hp.n
 have h2 := asc07_c p.edges g.edges.length hp.e
 refine sB Tryz.func186 Tryz.ntmps186 ?_
 intro hbox htok
 simp only at hbox htok
 apply AL.start
 try (simp)
 repeat (refine sR ?_; simp)
 refine Stop.of_d (h1 _ _) ?_
 simp
 try (simp)
 repeat (refine sR ?_; simp)
 by_cases e1 : ascE p.nodes g.nodes.length = 0
 ·simp only [e1]
  refine sC ?_
  simp
  try (simp)
  repeat (refine sR ?_; simp)
  refine Stop.of_d (h2 _ _) ?_
  simp
  try (simp)
  repeat (refine sR ?_; simp)
  by_cases e2 : ascE p.edges g.edges.length = 0
  ·simp only [e2]
   refine sC ?_
   simp
   try (simp)
   repeat (refine sR ?_; simp)
   refine sN ?_
   have re := asc_rng e2
   refine AL.loopT (stRi g p nb box tok nt) (fun i => i ≤ p.edges.length ∧ firstE (dangAt g p) i = 0) (fun i => p.edges.length - i) 0 ⟨Nat.zero_le _, rfl⟩ (Weaks.mk (Nat.le_refl _) rfl (by simp [ToL, lk]) (by simp [BoxL, lk])) ?_
   rintro i S ⟨hi, hok⟩ hS
   simp only [stRi] at hS
   subst hS
   have hpe := hp.e
   have hw := sW (i := i) (by omega)
   have hR : i < p.edges.length → dangAt g p i ≠ 0 → rightP g p = dangAt g p i := fun hlt h0 => by
    have := firstE_stop hok h0 p.edges.length hlt
    simp [rightP, e1, e2, this]
   try (simp)
   repeat (refine sR ?_; simp)
   refine sC ?_
   simp
   refine ⟨fun hlt => ?_, fun hge => ?_⟩
   ·have hR := hR hlt
    obtain ⟨r1, r2⟩ := re _ (List.getElem_mem hlt)
    have r3 : p.edges[i].toNat < g.edges.length := by omega
    have hD : dangAt g p i = if g.edges[p.edges[i].toNat].fr ∈ p.nodes ∧ g.edges[p.edges[i].toNat].to ∈ p.nodes then 0 else 14 := by
     have q1 : p.edges.getD i 0 = p.edges[i] := by simp [hlt]
     have q2 : g.edges.getD p.edges[i].toNat default = g.edges[p.edges[i].toNat] := by simp [r3]
     rw [dangAt, q1, q2]
    have hh := fun v => has07_c p.nodes v hp.n
    refine sN ?_
    refine AL.region2 follows_Tryz (Nat.le_refl _) (by kernel_rfl) (Side.of (by simp)) ?_
    simp [hlt, r1, r2, r3]
    generalize g.edges[p.edges[i].toNat] = x at *
    try (simp)
    repeat (refine sR ?_; simp)
    refine Stop.of_d (hh _ _ _) ?_
    simp
    by_cases h1 : x.fr ∈ p.nodes
    ·simp only [h1]
     try (simp)
     repeat (refine sR ?_; simp)
     refine Stop.of_d (hh _ _ _) ?_
     simp
     by_cases h2 : x.to ∈ p.nodes
     ·rw [if_pos ⟨h1, h2⟩] at hD
      simp only [h2]
      try (simp)
      repeat (refine sR ?_; simp)
      refine sC ?_
      simp
      try (simp [hw])
      repeat (refine sR ?_; simp [hw])
      refine sE ?_
      exact ⟨i + 1, ⟨hlt, by simp only [firstE, hok, hD, ↓reduceIte]⟩, by omega, Weaks.mk (Nat.le_refl _) rfl (by simp [ToL, lk]) (by simp [BoxL, lk])⟩
     ·rw [if_neg (fun h => h2 h.2)] at hD
      rw [hD] at hR
      have hR := hR (by decide)
      simp only [h2]
      try (simp)
      repeat (refine sR ?_; simp)
      refine sC ?_
      simp
      try (simp)
      repeat (refine sR ?_; simp)
      refine sT ?_
      try simp only [AU]
      refine ⟨by simp, sF hbox htok (fun _ h => h) (Nat.le_refl _) ?_⟩
      simp [packA, hR]
    ·rw [if_neg (fun h => h1 h.1)] at hD
     rw [hD] at hR
     have hR := hR (by decide)
     simp only [h1]
     try (simp)
     repeat (refine sR ?_; simp)
     refine sC ?_
     simp
     try (simp)
     repeat (refine sR ?_; simp)
     refine sT ?_
     try simp only [AU]
     refine ⟨by simp, sF hbox htok (fun _ h => h) (Nat.le_refl _) ?_⟩
     simp [packA, hR]
   ·refine sX ?_
    simp only [AU, ↓reduceIte]
    try (simp)
    repeat (refine sR ?_; simp)
    have : i = p.edges.length := by omega
    subst this
    refine sT ?_
    try simp only [AU]
    refine ⟨by simp, sF hbox htok (fun _ h => h) (Nat.le_refl _) ?_⟩
    simp [packA, rightP, e1, e2, hok]
  ·have b2 : (ascE p.edges g.edges.length != 0) = true := by simp [e2]
   simp only [b2]
   refine sC ?_
   simp
   try (simp)
   repeat (refine sR ?_; simp)
   refine sT ?_
   try simp only [AU]
   refine ⟨by simp, sF hbox htok (fun _ h => h) (Nat.le_refl _) ?_⟩
   simp [packA, rightP, e1, e2]
 ·have b1 : (ascE p.nodes g.nodes.length != 0) = true := by simp [e1]
  simp only [b1]
  refine sC ?_
  simp
  try (simp)
  repeat (refine sR ?_; simp)
  refine sT ?_
  try simp only [AU]
  refine ⟨by simp, sF hbox htok (fun _ h => h) (Nat.le_refl _) ?_⟩
  simp [packA, rightP, e1]
theorem valid07_c (g : Gr) (p : Mo) (hg : g.Fit) (hp : p.Fit) (tok : Tks) (nt : Nat) : DCall Tryz.prog 104 [g.av, p.av] tok nt (I (validP g p)) tok nt := by
 intro box nb
 have h1 := valid05_c g hg
 have h2 := fun h => right07_c g p hg h hp
 refine sB Tryz.func104 Tryz.ntmps104 ?_
 intro hbox htok
 simp only at hbox htok
 apply AL.start
 try (simp)
 repeat (refine sR ?_; simp)
 refine Stop.of_d (h1 _ _) ?_
 simp
 try (simp)
 repeat (refine sR ?_; simp)
 by_cases e1 : validG g = 0
 ·simp only [e1]
  refine sC ?_
  simp
  try (simp)
  repeat (refine sR ?_; simp)
  refine Stop.of_d (h2 e1 _ _) ?_
  simp
  try (simp)
  repeat (refine sR ?_; simp)
  refine sT ?_
  try simp only [AU]
  refine ⟨by simp, sF hbox htok (fun _ h => h) (Nat.le_refl _) ?_⟩
  simp [packA, validP, e1]
 ·have b1 : (validG g != 0) = true := by simp [e1]
  simp only [b1]
  refine sC ?_
  simp
  try (simp)
  repeat (refine sR ?_; simp)
  refine sT ?_
  try simp only [AU]
  refine ⟨by simp, sF hbox htok (fun _ h => h) (Nat.le_refl _) ?_⟩
  simp [packA, validP, e1]
def exN07 (g : Gr) (p : Mo) (i : Nat) : List Int := (p.nodes.take i).map fun k => g.nodes.getD k.toNat 0
def exE07 (g : Gr) (p : Mo) (i : Nat) : List E := (p.edges.take i).map (exE1 g p)
def stEx1 (g : Gr) (p : Mo) (nb : Nat) (box : Bxs) (x : Acc) : AState :=
 ⟨tl [(9, I x.i), (8, .ptr (nb + 8) 0 0), (5, .ptr (nb + 5) 0 0), (4, .ptr (nb + 4) 0 0), (3, .ptr (nb + 3) 0 0), (2, .ptr (nb + 2) 0 0)],
  lb nb box [(8, [[.osl 1 (rI (exN07 g p x.i)) x.own, .osl 0 [] .full]]), (3, [[.d (ints p.nodes), .d (ints p.edges)]]), (2, [[.d (ints g.nodes), .d (AM.edges g.edges)]]), (5, [[nilS, nilS]]), (4, [[nilS, nilS]])], x.tok, x.nt⟩
def stEx2 (g : Gr) (p : Mo) (own1 : Own) (nb : Nat) (box : Bxs) (x : Acc) : AState :=
 ⟨tl [(10, I x.i), (8, .ptr (nb + 8) 0 0), (5, .ptr (nb + 5) 0 0), (4, .ptr (nb + 4) 0 0), (3, .ptr (nb + 3) 0 0), (2, .ptr (nb + 2) 0 0)],
  lb nb box [(8, [[.d (ints (exN07 g p p.nodes.length)), .osl 3 (rE (exE07 g p x.i)) x.own]]), (3, [[.d (ints p.nodes), .d (ints p.edges)]]), (2, [[.d (ints g.nodes), .d (AM.edges g.edges)]]), (5, [[nilS, nilS]]), (4, [[nilS, nilS]])], x.tok, x.nt⟩
theorem exN07_zero (g : Gr) (p : Mo) : exN07 g p 0 = [] := by simp [exN07]
theorem exE07_zero (g : Gr) (p : Mo) : exE07 g p 0 = [] := by simp [exE07]
theorem exN07_succ (g : Gr) (p : Mo) {i : Nat} (h : i < p.nodes.length) : exN07 g p (i + 1) = exN07 g p i ++ [g.nodes.getD p.nodes[i].toNat 0] := by simp only [exN07, List.take_add_one, List.getElem?_eq_getElem h, Option.toList, List.map_append, List.map_cons, List.map_nil]
theorem exE07_succ (g : Gr) (p : Mo) {i : Nat} (h : i < p.edges.length) : exE07 g p (i + 1) = exE07 g p i ++ [exE1 g p p.edges[i]] := by simp only [exE07, List.take_add_one, List.getElem?_eq_getElem h, Option.toList, List.map_append, List.map_cons, List.map_nil]
theorem exN07_len (g : Gr) (p : Mo) (i : Nat) : (exN07 g p i).length ≤ i := by simp [exN07]; omega
theorem exE07_len (g : Gr) (p : Mo) (i : Nat) : (exE07 g p i).length ≤ i := by simp [exE07]; omega
theorem exG_07 (g : Gr) (p : Mo) : exG g p = ⟨exN07 g p p.nodes.length, exE07 g p p.edges.length⟩ := by simp [exG, exN07, exE07]
theorem extract07_c (g : Gr) (p : Mo) (hg : g.Fit) (hp : p.Fit) (h : VP g p) (tok : Tks) (nt : Nat) : DCall Tryz.prog 54 [g.av, p.av] tok nt (.tup [(exG g p).av, p.av, I 0]) tok nt := by
 intro box nb
 have h1 := valid07_c g p hg hp
 rw [h.v] at h1
 refine sB Tryz.func54 Tryz.ntmps54 ?_
 intro hbox htok
 simp only at hbox htok
 apply AL.start
 try (simp)
 repeat (refine sR ?_; simp)
 refine Stop.of_d (h1 _ _) ?_
 simp
 try (simp)
 repeat (refine sR ?_; simp)
 refine sC ?_
 simp
 try (simp)
 repeat (refine sR ?_; simp)
 refine sN ?_
 have hpn := hp.n
 have hpe := hp.e
 refine AL.loopT (stEx1 g p nb box) (fun x => x.i ≤ p.nodes.length ∧ TK tok nt x.tok x.nt [x.own]) (fun x => p.nodes.length - x.i) ⟨0, .full, tok, nt⟩ ⟨Nat.zero_le _, (TK.start htok).full⟩ (Weaks.mk (Nat.le_refl _) rfl (by simp [ToL, lk]) (by simp [BoxL, lk, exN07_zero])) ?_
 rintro ⟨i, own, tok', nt'⟩ S ⟨hi, htk⟩ hS
 simp only [stEx1] at hS hi htk
 subst hS
 have hw := sW (i := i) (by omega)
 try (simp)
 repeat (refine sR ?_; simp)
 refine sC ?_
 simp
 refine ⟨fun hlt => ?_, fun hge => ?_⟩
 ·obtain ⟨r1, r2⟩ := h.n _ (List.getElem_mem hlt)
  have r3 : p.nodes[i].toNat < g.nodes.length := by omega
  refine sR ?_
  simp [hlt, r1, r2, r3]
  refine ⟨⟨by have := exN07_len g p i; omega, htk.live⟩, ?_⟩
  try (simp [hw])
  repeat (refine sR ?_; simp [hw])
  refine sE ?_
  exact ⟨⟨i + 1, _, _, _⟩, ⟨hlt, htk.app⟩, by simp only; omega, Weaks.mk htk.app.le rfl (by simp [ToL, lk]) (by simp [BoxL, lk, exN07_succ g p hlt, r3])⟩
 ·refine sX ?_
  simp only [AU, ↓reduceIte]
  have : i = p.nodes.length := by omega
  subst this
  try (simp)
  repeat (refine sR ?_; simp)
  refine sN ?_
  refine AL.loopT (stEx2 g p own nb box) (fun x => x.i ≤ p.edges.length ∧ TK tok nt x.tok x.nt [x.own]) (fun x => p.edges.length - x.i) ⟨0, .full, tok', nt'⟩ ⟨Nat.zero_le _, htk.tail.full⟩ (Weaks.mk htk.le rfl (by simp [ToL, lk]) (by simp [BoxL, lk, exE07_zero])) ?_
  rintro ⟨i, own2, tok2, nt2⟩ S ⟨hi, htk2⟩ hS
  simp only [stEx2] at hS hi htk2
  subst hS
  have hw := sW (i := i) (by omega)
  have hh := fun v => index07_c p.nodes v hp.n
  try (simp)
  repeat (refine sR ?_; simp)
  refine sC ?_
  simp
  refine ⟨fun hlt => ?_, fun hge => ?_⟩
  ·obtain ⟨r1, r2⟩ := h.e _ (List.getElem_mem hlt)
   have r3 : p.edges[i].toNat < g.edges.length := by omega
   have hE : exE1 g p p.edges[i] = ⟨g.edges[p.edges[i].toNat].ty, indexI p.nodes g.edges[p.edges[i].toNat].fr, indexI p.nodes g.edges[p.edges[i].toNat].to⟩ := by
    have q2 : g.edges.getD p.edges[i].toNat default = g.edges[p.edges[i].toNat] := by simp [r3]
    rw [exE1, q2]
   have hsucc := exE07_succ g p hlt
   rw [hE] at hsucc
   refine sN ?_
   refine AL.region2 follows_Tryz (Nat.le_refl _) (by kernel_rfl) (Side.of (by simp)) ?_
   simp [hlt, r1, r2, r3]
   generalize g.edges[p.edges[i].toNat] = x at *
   refine sR ?_
   simp
   refine Stop.of_d (hh _ _ _) ?_
   simp
   refine Stop.of_d (hh _ _ _) ?_
   simp
   refine ⟨⟨by have := exE07_len g p i; omega, htk2.live⟩, ?_⟩
   try (simp [hw])
   repeat (refine sR ?_; simp [hw])
   refine sE ?_
   exact ⟨⟨i + 1, _, _, _⟩, ⟨hlt, htk2.app⟩, by simp only; omega, Weaks.mk htk2.app.le rfl (by simp [ToL, lk]) (by simp [BoxL, lk, hsucc])⟩
  ·refine sX ?_
   simp only [AU, ↓reduceIte]
   have : i = p.edges.length := by omega
   subst this
   try (simp)
   repeat (refine sR ?_; simp)
   refine ⟨by omega, by omega, ?_⟩
   have htk3 := htk2.full.app.full.app
   refine sT ?_
   try simp only [AU]
   refine ⟨by simp, sF hbox htok htk3.old htk3.le ?_⟩
   simp [packA, exG_07]
theorem few07_c (p : Mo) (n : Int) (h1 : p.nodes.length ≤ 281474976710656) (h2 : p.edges.length ≤ 281474976710656) (tok : Tks) (nt : Nat) : DCall Tryz.prog 108 [p.av, I n] tok nt (B (fewM p n)) tok nt := by
 intro box nb
 have hw : IntKind.i64.wrap (↑p.nodes.length + ↑p.edges.length) = (p.nodes.length : Int) + p.edges.length := wrap_in (by omega) (by omega)
 refine sB Tryz.func108 Tryz.ntmps108 ?_
 intro hbox htok
 simp only at hbox htok
 apply AL.start
 try (simp [hw])
 repeat (refine sR ?_; simp [hw])
 refine sT ?_
 try simp only [AU]
 refine ⟨by simp, sF hbox htok (fun _ h => h) (Nat.le_refl _) ?_⟩
 simp [packA, fewM]
end Go.AM
namespace Go.AM
open Go Go.Proofs
theorem isNaN_c (n : Int) (tok : Tks) (nt : Nat) : DCall Tryz.prog 281 [I n] tok nt (B false) tok nt := by
 intro box nb
 refine sB Tryz.func281 Tryz.ntmps281 ?_
 intro hbox htok
 simp only at hbox htok
 apply AL.start
 try (simp)
 repeat (refine sR ?_; simp)
 refine sT ?_
 try simp only [AU]
 refine ⟨by simp, sF hbox htok (fun _ h => h) (Nat.le_refl _) ?_⟩
 simp [packA]
theorem isNaNs_c (n : Int) (tok : Tks) (nt : Nat) : DCall Tryz.prog 244 [I n] tok nt (B false) tok nt := by
 intro box nb
 refine sB Tryz.func244 Tryz.ntmps244 ?_
 intro hbox htok
 simp only at hbox htok
 apply AL.start
 try (simp)
 repeat (refine sR ?_; simp)
 refine sT ?_
 try simp only [AU]
 refine ⟨by simp, sF hbox htok (fun _ h => h) (Nat.le_refl _) ?_⟩
 simp [packA]
theorem less_c (m n : Int) (tok : Tks) (nt : Nat) : DCall Tryz.prog 243 [I m, I n] tok nt (B (decide (m < n))) tok nt := by
 intro box nb
 have h := isNaN_c
 refine sB Tryz.func243 Tryz.ntmps243 ?_
 intro hbox htok
 simp only at hbox htok
 apply AL.start
 try (simp)
 repeat (refine sR ?_; simp)
 refine Stop.of_d (h _ _ _) ?_
 simp
 try (simp)
 repeat (refine sR ?_; simp)
 refine sT ?_
 try simp only [AU]
 refine ⟨by simp, sF hbox htok (fun _ h => h) (Nat.le_refl _) ?_⟩
 simp [packA]
def lowI (l : List Int) (v : Int) : Nat := l.findIdx fun x => decide (v ≤ x)
theorem lowI_eq {l : List Int} {v : Int} {i : Nat} (hi : i ≤ l.length) (h1 : ∀ t, t < i → l.getD t 0 < v) (h2 : ∀ t, i ≤ t → t < l.length → v ≤ l.getD t 0) : lowI l v = i := by
 unfold lowI
 have gd : ∀ t (h : t < l.length), l.getD t 0 = l[t] := fun t h => by simp [h]
 by_cases h : i < l.length
 ·rw [List.findIdx_eq h]
  refine ⟨?_, fun j hj => ?_⟩
  ·have := h2 i (Nat.le_refl _) h
   rw [gd i h] at this
   simpa using this
  ·have := h1 j hj
   rw [gd j (by omega)] at this
   simpa using this
 ·have : i = l.length := by omega
  subst this
  rw [List.findIdx_eq_length]
  intro x hx
  obtain ⟨t, ht, rfl⟩ := List.getElem_of_mem hx
  have := h1 t ht
  rw [gd t ht] at this
  simpa using this
theorem lowI_index {l : List Int} {v : Int} (hs : ∀ j i, i < j → j < l.length → l.getD i 0 < l.getD j 0) (hm : v ∈ l) : (lowI l v : Int) = indexI l v := by
 obtain ⟨i1, i2, i3⟩ := indexI_in hm
 obtain ⟨k, hk⟩ : ∃ k : Nat, indexI l v = k := ⟨(indexI l v).toNat, by omega⟩
 rw [hk] at i1 i2 i3 ⊢
 rw [Int.toNat_natCast] at i3
 rw [lowI_eq (i := k) (by omega) (fun t ht => by rw [← i3]; exact hs k t ht (by omega)) fun t h1 h2 => by
  rw [← i3]
  by_cases e : t = k
  ·subst e; omega
  ·have := hs t k (by omega) h2; omega]
structure AccB where
 i : Nat
 j : Nat
def stBs (l : List Int) (v : Int) (nb : Nat) (box : Bxs) (tok : Tks) (nt : Nat) (a : AccB) : AState := ⟨tl [(8, I a.j), (7, I a.i), (6, I l.length), (5, B false), (4, I 0), (0, .d (ints l)), (1, I v)], lb nb box [], tok, nt⟩
theorem search_c (l : List Int) (v : Int) (hl : l.length ≤ 1000000) (hs : ∀ j i, i < j → j < l.length → l.getD i 0 < l.getD j 0) (tok : Tks) (nt : Nat) :
  DCall Tryz.prog 188 [.d (ints l), I v] tok nt (.tup [I (lowI l v), B (decide (v ∈ l))]) tok nt := by
 intro box nb
 refine sB Tryz.func188 Tryz.ntmps188 ?_
 intro hbox htok
 simp only at hbox htok
 apply AL.start
 try (simp)
 repeat (refine sR ?_; simp)
 refine sN ?_
 refine AL.loopT (stBs l v nb box tok nt) (fun a => a.i ≤ a.j ∧ a.j ≤ l.length ∧ (∀ t, t < a.i → l.getD t 0 < v) ∧ ∀ t, a.j ≤ t → t < l.length → v ≤ l.getD t 0) (fun a => a.j - a.i) ⟨0, l.length⟩ ⟨Nat.zero_le _, Nat.le_refl _, fun t ht => absurd ht (Nat.not_lt_zero _), fun t h1 h2 => absurd h2 (by simp only at h1; omega)⟩ (Weaks.mk (Nat.le_refl _) rfl (by simp [ToL, lk]) trivial) ?_
 rintro ⟨i, j⟩ S ⟨hij, hj, h1, h2⟩ hS
 simp only [stBs] at hS hij hj h1 h2
 subst hS
 try (simp)
 repeat (refine sR ?_; simp)
 refine sC ?_
 simp
 refine ⟨fun hlt => ?_, fun hge => ?_⟩
 ·obtain ⟨q, hq⟩ : ∃ q, i + j = q := ⟨_, rfl⟩
  obtain ⟨h, hh⟩ : ∃ h, q / 2 = h := ⟨_, rfl⟩
  have w1 : IntKind.i64.wrap (↑i + ↑j) = (q : Int) := by rw [wrap_in (by omega) (by omega)]; omega
  have w2 : IntKind.u64.wrap (q : Int) = q := u64_in (by omega) (by omega)
  have w3 : (q : Int).fdiv (2 ^ min 1 IntKind.u64.bits) = (h : Int) := by
   have e : (2 : Int) ^ min 1 IntKind.u64.bits = 2 := by decide
   rw [e, Int.fdiv_eq_ediv_of_nonneg _ (by omega)]
   omega
  have w4 : IntKind.i64.wrap (h : Int) = h := wrap_in (by omega) (by omega)
  have w5 : IntKind.i64.wrap ((h : Int) + 1) = ((h + 1 : Nat) : Int) := by rw [wrap_in (by omega) (by omega)]; rfl
  have hhl : h < l.length := by omega
  have hgh : l.getD h 0 = l[h] := by simp [hhl]
  have hls := less_c l[h] v
  try (simp [w1, w2, w3, w4, hhl])
  repeat (refine sR ?_; simp [w1, w2, w3, w4, hhl])
  refine Stop.of_d (hls _ _) ?_
  simp
  by_cases hv : l[h] < v
  ·simp only [hv]
   refine sC ?_
   simp
   try (simp [w5])
   repeat (refine sR ?_; simp [w5])
   refine sE ?_
   refine ⟨⟨h + 1, j⟩, ⟨by simp only; omega, hj, fun t ht => ?_, h2⟩, by simp only; omega, Weaks.mk (Nat.le_refl _) rfl (by simp [ToL, lk]) trivial⟩
   simp only at ht
   rw [← List.getD_eq_getElem?_getD]
   by_cases e : t = h
   ·rw [e, hgh]; exact hv
   ·have := hs h t (by omega) hhl
    rw [hgh] at this
    omega
  ·simp only [hv]
   refine sC ?_
   simp
   try (simp)
   repeat (refine sR ?_; simp)
   refine sE ?_
   refine ⟨⟨i, h⟩, ⟨by simp only; omega, by simp only; omega, h1, fun t ht htl => ?_⟩, by simp only; omega, Weaks.mk (Nat.le_refl _) rfl (by simp [ToL, lk]) trivial⟩
   simp only at ht
   rw [← List.getD_eq_getElem?_getD]
   by_cases e : t = h
   ·rw [e, hgh]; omega
   ·have := hs t h (by omega) htl
    rw [hgh] at this
    omega
 ·refine sX ?_
  simp only [AU, ↓reduceIte]
  have hij2 : i = j := by omega
  subst hij2
  have hlow : lowI l v = i := lowI_eq hj h1 h2
  have hmem : i < l.length → l.getD i 0 = v → v ∈ l := fun h3 h4 => by rw [← h4]; exact getD_mem h3
  have hin : v ∈ l → i < l.length ∧ l.getD i 0 = v := fun hm => by
   obtain ⟨t, ht, e⟩ := mem_getD hm
   have a1 : ¬ t < i := fun h3 => by have := h1 t h3; omega
   have a2 : ¬ i < t := fun h3 => by
    have := hs t i h3 ht
    have := h2 i (Nat.le_refl _) (by omega)
    omega
   have : t = i := by omega
   subst this
   exact ⟨ht, e⟩
  by_cases h3 : i < l.length
  ·have hg : l.getD i 0 = l[i] := by simp [h3]
   rw [hg] at hmem hin
   by_cases h4 : l[i] = v
   ·have hm := hmem h3 h4
    have hb : (l[i] == v) = true := by simp [h4]
    try (simp [h3, hb])
    repeat (refine sR ?_; simp [h3, hb])
    refine sT ?_
    try simp only [AU]
    refine ⟨by simp, sF hbox htok (fun _ h => h) (Nat.le_refl _) ?_⟩
    simp [packA, hlow, hm]
   ·have hm : v ∉ l := fun h => h4 (hin h).2
    have hb : (l[i] == v) = false := by simp [h4]
    try (simp [h3, hb])
    repeat (refine sR ?_; simp [h3, hb])
    refine Stop.of_d (isNaNs_c _ _ _) ?_
    simp
    try (simp)
    repeat (refine sR ?_; simp)
    refine sT ?_
    try simp only [AU]
    refine ⟨by simp, sF hbox htok (fun _ h => h) (Nat.le_refl _) ?_⟩
    simp [packA, hlow, hm]
  ·have hm : v ∉ l := fun h => h3 (hin h).1
   try (simp [h3])
   repeat (refine sR ?_; simp [h3])
   refine sT ?_
   try simp only [AU]
   refine ⟨by simp, sF hbox htok (fun _ h => h) (Nat.le_refl _) ?_⟩
   simp [packA, hlow, hm]
def stLi (l : List Int) (n : Int) (nb : Nat) (box : Bxs) (tok : Tks) (nt : Nat) (i : Nat) : AState := ⟨tl [(9, I i), (8, I l.length), (7, .d (ints l)), (4, I 0), (0, .d (ints l)), (1, I n)], lb nb box [], tok, nt⟩
theorem list_c (l : List Int) (n : Int) (hl : l.length ≤ 1000000) (tok : Tks) (nt : Nat) : DCall Tryz.prog 262 [.d (ints l), I n] tok nt (I (ascE l n)) tok nt := by
 intro box nb
 refine sB Tryz.func262 Tryz.ntmps262 ?_
 intro hbox htok
 simp only at hbox htok
 apply AL.start
 try (simp)
 repeat (refine sR ?_; simp)
 refine sN ?_
 refine AL.loopT (stLi l n nb box tok nt) (fun i => i ≤ l.length ∧ firstE (ascAt l n) i = 0) (fun i => l.length - i) 0 ⟨Nat.zero_le _, rfl⟩ (Weaks.mk (Nat.le_refl _) rfl (by simp [ToL, lk]) trivial) ?_
 rintro i S ⟨hi, hok⟩ hS
 simp only [stLi] at hS
 subst hS
 have hw := sW (i := i) (by omega)
 have hR : i < l.length → ascAt l n i ≠ 0 → ascE l n = ascAt l n i := fun hlt h0 => firstE_stop hok h0 l.length hlt
 try (simp)
 repeat (refine sR ?_; simp)
 refine sC ?_
 simp
 refine ⟨fun hlt => ?_, fun hge => ?_⟩
 ·have hg : l.getD i 0 = l[i] := by simp [hlt]
  have hR := hR hlt
  have hA : ascAt l n i = if l[i] < 0 ∨ n ≤ l[i] then 6 else if 0 < i ∧ l[i] ≤ l.getD (i - 1) 0 then 12 else 0 := by rw [ascAt, hg]
  by_cases hneg : l[i] < 0
  ·try (simp [hneg, hlt])
   repeat (refine sR ?_; simp [hneg, hlt])
   refine sC ?_
   simp
   try (simp)
   repeat (refine sR ?_; simp)
   rw [hA, if_pos (.inl hneg)] at hR
   have hR := hR (by decide)
   refine sT ?_
   try simp only [AU]
   refine ⟨by simp, sF hbox htok (fun _ h => h) (Nat.le_refl _) ?_⟩
   simp [packA, hR]
  ·by_cases hbig : n ≤ l[i]
   ·try (simp [hneg, hlt, hbig])
    repeat (refine sR ?_; simp [hneg, hlt, hbig])
    refine sC ?_
    simp
    try (simp)
    repeat (refine sR ?_; simp)
    rw [hA, if_pos (.inr hbig)] at hR
    have hR := hR (by decide)
    refine sT ?_
    try simp only [AU]
    refine ⟨by simp, sF hbox htok (fun _ h => h) (Nat.le_refl _) ?_⟩
    simp [packA, hR]
   ·rw [if_neg (by omega)] at hA
    try (simp [hneg, hlt, hbig])
    repeat (refine sR ?_; simp [hneg, hlt, hbig])
    refine sC ?_
    simp
    by_cases h0 : 0 < i
    ·have hw' : IntKind.i64.wrap (↑i - 1) = ((i - 1 : Nat) : Int) := by rw [wrap_in (by omega) (by omega)]; omega
     have hlt' : i - 1 < l.length := by omega
     have hg' : l.getD (i - 1) 0 = l[i - 1] := by simp [hlt']
     rw [hg'] at hA
     try (simp [hlt, h0, hw', hlt'])
     repeat (refine sR ?_; simp [hlt, h0, hw', hlt'])
     by_cases hle : l[i] ≤ l[i - 1]
     ·rw [if_pos ⟨h0, hle⟩] at hA
      rw [hA] at hR
      have hR := hR (by decide)
      simp only [hle]
      refine sC ?_
      simp
      try (simp)
      repeat (refine sR ?_; simp)
      refine sT ?_
      try simp only [AU]
      refine ⟨by simp, sF hbox htok (fun _ h => h) (Nat.le_refl _) ?_⟩
      simp [packA, hR]
     ·rw [if_neg (by omega)] at hA
      simp only [hle]
      refine sC ?_
      simp
      try (simp [hw])
      repeat (refine sR ?_; simp [hw])
      refine sE ?_
      exact ⟨i + 1, ⟨hlt, by simp only [firstE, hok, hA, ↓reduceIte]⟩, by omega, Weaks.mk (Nat.le_refl _) rfl (by simp [ToL, lk]) trivial⟩
    ·rw [if_neg (by omega)] at hA
     try (simp [hlt, h0])
     repeat (refine sR ?_; simp [hlt, h0])
     refine sC ?_
     simp
     try (simp [hw])
     repeat (refine sR ?_; simp [hw])
     refine sE ?_
     exact ⟨i + 1, ⟨hlt, by simp only [firstE, hok, hA, ↓reduceIte]⟩, by omega, Weaks.mk (Nat.le_refl _) rfl (by simp [ToL, lk]) trivial⟩
 ·refine sX ?_
  simp only [AU, ↓reduceIte]
  try (simp)
  repeat (refine sR ?_; simp)
  have : i = l.length := by omega
  subst this
  refine sT ?_
  try simp only [AU]
  refine ⟨by simp, sF hbox htok (fun _ h => h) (Nat.le_refl _) ?_⟩
  simp [packA, ascE, hok]
theorem has_c (l : List Int) (v : Int) (hl : l.length ≤ 1000000) (hs : ∀ j i, i < j → j < l.length → l.getD i 0 < l.getD j 0) (tok : Tks) (nt : Nat) : DCall Tryz.prog 263 [.d (ints l), I v] tok nt (B (decide (v ∈ l))) tok nt := by
 intro box nb
 have h := search_c l v hl hs
 refine sB Tryz.func263 Tryz.ntmps263 ?_
 intro hbox htok
 simp only at hbox htok
 apply AL.start
 try (simp)
 repeat (refine sR ?_; simp)
 refine Stop.of_d (h _ _) ?_
 simp
 try (simp)
 repeat (refine sR ?_; simp)
 refine sT ?_
 try simp only [AU]
 refine ⟨by simp, sF hbox htok (fun _ h => h) (Nat.le_refl _) ?_⟩
 simp [packA]
def stPr (g : Gr) (p : Mo) (nb : Nat) (box : Bxs) (tok : Tks) (nt : Nat) (i : Nat) : AState :=
 ⟨tl [(30, I i), (29, I p.edges.length), (28, .d (ints p.edges)), (3, .ptr (nb + 3) 0 0), (2, .ptr (nb + 2) 0 0)], lb nb box [(3, [[.d (ints p.nodes), .d (ints p.edges)]]), (2, [[.d (ints g.nodes), .d (AM.edges g.edges)]])], tok, nt⟩
theorem part_c (g : Gr) (p : Mo) (hg : g.Fit) (hv : validG g = 0) (hp : p.Fit) (tok : Tks) (nt : Nat) : DCall Tryz.prog 216 [g.av, p.av] tok nt (I (rightP g p)) tok nt := by
 intro box nb
 have h1 := list_c p.nodes g.nodes.length hp.n
 have h2 := list_c p.edges g.edges.length hp.e
 refine sB Tryz.func216 Tryz.ntmps216 ?_
 intro hbox htok
 simp only at hbox htok
 apply AL.start
 try (simp)
 repeat (refine sR ?_; simp)
 refine Stop.of_d (h1 _ _) ?_
 simp
 try (simp)
 repeat (refine sR ?_; simp)
 by_cases e1 : ascE p.nodes g.nodes.length = 0
 ·simp only [e1]
  refine sC ?_
  simp
  try (simp)
  repeat (refine sR ?_; simp)
  refine Stop.of_d (h2 _ _) ?_
  simp
  try (simp)
  repeat (refine sR ?_; simp)
  by_cases e2 : ascE p.edges g.edges.length = 0
  ·simp only [e2]
   refine sC ?_
   simp
   try (simp)
   repeat (refine sR ?_; simp)
   refine sN ?_
   have re := asc_rng e2
   refine AL.loopT (stPr g p nb box tok nt) (fun i => i ≤ p.edges.length ∧ firstE (dangAt g p) i = 0) (fun i => p.edges.length - i) 0 ⟨Nat.zero_le _, rfl⟩ (Weaks.mk (Nat.le_refl _) rfl (by simp [ToL, lk]) (by simp [BoxL, lk])) ?_
   rintro i S ⟨hi, hok⟩ hS
   simp only [stPr] at hS
   subst hS
   have hpe := hp.e
   have hw := sW (i := i) (by omega)
   have hR : i < p.edges.length → dangAt g p i ≠ 0 → rightP g p = dangAt g p i := fun hlt h0 => by
    have := firstE_stop hok h0 p.edges.length hlt
    simp [rightP, e1, e2, this]
   try (simp)
   repeat (refine sR ?_; simp)
   refine sC ?_
   simp
   refine ⟨fun hlt => ?_, fun hge => ?_⟩
   ·have hR := hR hlt
    obtain ⟨r1, r2⟩ := re _ (List.getElem_mem hlt)
    have r3 : p.edges[i].toNat < g.edges.length := by omega
    have hD : dangAt g p i = if g.edges[p.edges[i].toNat].fr ∈ p.nodes ∧ g.edges[p.edges[i].toNat].to ∈ p.nodes then 0 else 14 := by
     have q1 : p.edges.getD i 0 = p.edges[i] := by simp [hlt]
     have q2 : g.edges.getD p.edges[i].toNat default = g.edges[p.edges[i].toNat] := by simp [r3]
     rw [dangAt, q1, q2]
    have hh := fun v => has_c p.nodes v hp.n (asc_lt e1)
    try (simp [hlt, r1, r2, r3])
    repeat (refine sR ?_; simp [hlt, r1, r2, r3])
    refine Stop.of_d (hh _ _ _) ?_
    simp
    by_cases h1 : g.edges[p.edges[i].toNat].fr ∈ p.nodes
    ·simp only [h1]
     try (simp [hlt, r1, r2, r3])
     repeat (refine sR ?_; simp [hlt, r1, r2, r3])
     refine Stop.of_d (hh _ _ _) ?_
     simp
     by_cases h2 : g.edges[p.edges[i].toNat].to ∈ p.nodes
     ·rw [if_pos ⟨h1, h2⟩] at hD
      simp only [h2]
      try (simp)
      repeat (refine sR ?_; simp)
      refine sC ?_
      simp
      try (simp [hw])
      repeat (refine sR ?_; simp [hw])
      refine sE ?_
      exact ⟨i + 1, ⟨hlt, by simp only [firstE, hok, hD, ↓reduceIte]⟩, by omega, Weaks.mk (Nat.le_refl _) rfl (by simp [ToL, lk]) (by simp [BoxL, lk])⟩
     ·rw [if_neg (fun h => h2 h.2)] at hD
      rw [hD] at hR
      have hR := hR (by decide)
      simp only [h2]
      try (simp)
      repeat (refine sR ?_; simp)
      refine sC ?_
      simp
      try (simp)
      repeat (refine sR ?_; simp)
      refine sT ?_
      try simp only [AU]
      refine ⟨by simp, sF hbox htok (fun _ h => h) (Nat.le_refl _) ?_⟩
      simp [packA, hR]
    ·rw [if_neg (fun h => h1 h.1)] at hD
     rw [hD] at hR
     have hR := hR (by decide)
     simp only [h1]
     try (simp)
     repeat (refine sR ?_; simp)
     refine sC ?_
     simp
     try (simp)
     repeat (refine sR ?_; simp)
     refine sT ?_
     try simp only [AU]
     refine ⟨by simp, sF hbox htok (fun _ h => h) (Nat.le_refl _) ?_⟩
     simp [packA, hR]
   ·refine sX ?_
    simp only [AU, ↓reduceIte]
    try (simp)
    repeat (refine sR ?_; simp)
    have : i = p.edges.length := by omega
    subst this
    refine sT ?_
    try simp only [AU]
    refine ⟨by simp, sF hbox htok (fun _ h => h) (Nat.le_refl _) ?_⟩
    simp [packA, rightP, e1, e2, hok]
  ·have b2 : (ascE p.edges g.edges.length != 0) = true := by simp [e2]
   simp only [b2]
   refine sC ?_
   simp
   try (simp)
   repeat (refine sR ?_; simp)
   refine sT ?_
   try simp only [AU]
   refine ⟨by simp, sF hbox htok (fun _ h => h) (Nat.le_refl _) ?_⟩
   simp [packA, rightP, e1, e2]
 ·have b1 : (ascE p.nodes g.nodes.length != 0) = true := by simp [e1]
  simp only [b1]
  refine sC ?_
  simp
  try (simp)
  repeat (refine sR ?_; simp)
  refine sT ?_
  try simp only [AU]
  refine ⟨by simp, sF hbox htok (fun _ h => h) (Nat.le_refl _) ?_⟩
  simp [packA, rightP, e1]
theorem validP_c (g : Gr) (p : Mo) (hg : g.Fit) (hp : p.Fit) (tok : Tks) (nt : Nat) : DCall Tryz.prog 153 [g.av, p.av] tok nt (I (validP g p)) tok nt := by
 intro box nb
 have h1 := graphValid_c g hg
 have h2 := fun h => part_c g p hg h hp
 refine sB Tryz.func153 Tryz.ntmps153 ?_
 intro hbox htok
 simp only at hbox htok
 apply AL.start
 try (simp)
 repeat (refine sR ?_; simp)
 refine Stop.of_d (h1 _ _) ?_
 simp
 try (simp)
 repeat (refine sR ?_; simp)
 by_cases e1 : validG g = 0
 ·simp only [e1]
  refine sC ?_
  simp
  try (simp)
  repeat (refine sR ?_; simp)
  refine Stop.of_d (h2 e1 _ _) ?_
  simp
  try (simp)
  repeat (refine sR ?_; simp)
  refine sT ?_
  try simp only [AU]
  refine ⟨by simp, sF hbox htok (fun _ h => h) (Nat.le_refl _) ?_⟩
  simp [packA, validP, e1]
 ·have b1 : (validG g != 0) = true := by simp [e1]
  simp only [b1]
  refine sC ?_
  simp
  try (simp)
  repeat (refine sR ?_; simp)
  refine sT ?_
  try simp only [AU]
  refine ⟨by simp, sF hbox htok (fun _ h => h) (Nat.le_refl _) ?_⟩
  simp [packA, validP, e1]
def stPx1 (g : Gr) (p : Mo) (nb : Nat) (box : Bxs) (x : Acc) : AState :=
 ⟨tl [(25, I x.i), (24, I p.nodes.length), (23, .d (ints p.nodes)), (8, .ptr (nb + 8) 0 0), (5, .ptr (nb + 5) 0 0), (4, .ptr (nb + 4) 0 0), (3, .ptr (nb + 3) 0 0), (2, .ptr (nb + 2) 0 0)],
  lb nb box [(8, [[.osl 1 (rI (exN07 g p x.i)) x.own, .osl 0 [] .full]]), (3, [[.d (ints p.nodes), .d (ints p.edges)]]), (2, [[.d (ints g.nodes), .d (AM.edges g.edges)]]), (5, [[nilS, nilS]]), (4, [[nilS, nilS]])], x.tok, x.nt⟩
def stPx2 (g : Gr) (p : Mo) (own1 : Own) (nb : Nat) (box : Bxs) (x : Acc) : AState :=
 ⟨tl [(43, I x.i), (42, I p.edges.length), (41, .d (ints p.edges)), (8, .ptr (nb + 8) 0 0), (5, .ptr (nb + 5) 0 0), (4, .ptr (nb + 4) 0 0), (3, .ptr (nb + 3) 0 0), (2, .ptr (nb + 2) 0 0)],
  lb nb box [(8, [[.d (ints (exN07 g p p.nodes.length)), .osl 3 (rE (exE07 g p x.i)) x.own]]), (3, [[.d (ints p.nodes), .d (ints p.edges)]]), (2, [[.d (ints g.nodes), .d (AM.edges g.edges)]]), (5, [[nilS, nilS]]), (4, [[nilS, nilS]])], x.tok, x.nt⟩
theorem extractP_c (g : Gr) (p : Mo) (hg : g.Fit) (hp : p.Fit) (h : VP g p) (tok : Tks) (nt : Nat) : DCall Tryz.prog 114 [g.av, p.av] tok nt (.tup [(exG g p).av, p.av, I 0]) tok nt := by
 intro box nb
 have h1 := validP_c g p hg hp
 rw [h.v] at h1
 refine sB Tryz.func114 Tryz.ntmps114 ?_
 intro hbox htok
 simp only at hbox htok
 apply AL.start
 try (simp)
 repeat (refine sR ?_; simp)
 refine Stop.of_d (h1 _ _) ?_
 simp
 try (simp)
 repeat (refine sR ?_; simp)
 refine sC ?_
 simp
 try (simp)
 repeat (refine sR ?_; simp)
 refine sN ?_
 have hpn := hp.n
 have hpe := hp.e
 refine AL.loopT (stPx1 g p nb box) (fun x => x.i ≤ p.nodes.length ∧ TK tok nt x.tok x.nt [x.own]) (fun x => p.nodes.length - x.i) ⟨0, .full, tok, nt⟩ ⟨Nat.zero_le _, (TK.start htok).full⟩ (Weaks.mk (Nat.le_refl _) rfl (by simp [ToL, lk]) (by simp [BoxL, lk, exN07_zero])) ?_
 rintro ⟨i, own, tok', nt'⟩ S ⟨hi, htk⟩ hS
 simp only [stPx1] at hS hi htk
 subst hS
 have hw := sW (i := i) (by omega)
 try (simp)
 repeat (refine sR ?_; simp)
 refine sC ?_
 simp
 refine ⟨fun hlt => ?_, fun hge => ?_⟩
 ·obtain ⟨r1, r2⟩ := h.n _ (List.getElem_mem hlt)
  have r3 : p.nodes[i].toNat < g.nodes.length := by omega
  try (simp [hlt, r1, r2, r3])
  repeat (refine sR ?_; simp [hlt, r1, r2, r3])
  refine ⟨⟨by have := exN07_len g p i; omega, htk.live⟩, ?_⟩
  try (simp [hw])
  repeat (refine sR ?_; simp [hw])
  refine sE ?_
  exact ⟨⟨i + 1, _, _, _⟩, ⟨hlt, htk.app⟩, by simp only; omega, Weaks.mk htk.app.le rfl (by simp [ToL, lk]) (by simp [BoxL, lk, exN07_succ g p hlt, r3])⟩
 ·refine sX ?_
  simp only [AU, ↓reduceIte]
  have : i = p.nodes.length := by omega
  subst this
  try (simp)
  repeat (refine sR ?_; simp)
  refine sN ?_
  refine AL.loopT (stPx2 g p own nb box) (fun x => x.i ≤ p.edges.length ∧ TK tok nt x.tok x.nt [x.own]) (fun x => p.edges.length - x.i) ⟨0, .full, tok', nt'⟩ ⟨Nat.zero_le _, htk.tail.full⟩ (Weaks.mk htk.le rfl (by simp [ToL, lk]) (by simp [BoxL, lk, exE07_zero])) ?_
  rintro ⟨i, own2, tok2, nt2⟩ S ⟨hi, htk2⟩ hS
  simp only [stPx2] at hS hi htk2
  subst hS
  have hw := sW (i := i) (by omega)
  have hh := fun v => search_c p.nodes v hp.n h.sn
  try (simp)
  repeat (refine sR ?_; simp)
  refine sC ?_
  simp
  refine ⟨fun hlt => ?_, fun hge => ?_⟩
  ·obtain ⟨r1, r2⟩ := h.e _ (List.getElem_mem hlt)
   have r3 : p.edges[i].toNat < g.edges.length := by omega
   have hE : exE1 g p p.edges[i] = ⟨g.edges[p.edges[i].toNat].ty, indexI p.nodes g.edges[p.edges[i].toNat].fr, indexI p.nodes g.edges[p.edges[i].toNat].to⟩ := by
    have q2 : g.edges.getD p.edges[i].toNat default = g.edges[p.edges[i].toNat] := by simp [r3]
    rw [exE1, q2]
   have hsucc := exE07_succ g p hlt
   rw [hE] at hsucc
   have hcc := h.c _ (List.getElem_mem hlt)
   have q3 : g.edges.getD p.edges[i].toNat default = g.edges[p.edges[i].toNat] := by simp [r3]
   rw [q3] at hcc
   have hh1 := hh g.edges[p.edges[i].toNat].fr
   have hh2 := hh g.edges[p.edges[i].toNat].to
   rw [lowI_index h.sn hcc.1] at hh1
   rw [lowI_index h.sn hcc.2] at hh2
   refine sR ?_
   simp [hlt]
   refine sR ?_
   simp [r1, r2, r3]
   generalize g.edges[p.edges[i].toNat] = x at *
   try (simp)
   repeat (refine sR ?_; simp)
   refine Stop.of_d (hh1 _ _) ?_
   simp
   try (simp)
   repeat (refine sR ?_; simp)
   refine Stop.of_d (hh2 _ _) ?_
   simp
   try (simp)
   repeat (refine sR ?_; simp)
   refine ⟨⟨by have := exE07_len g p i; omega, htk2.live⟩, ?_⟩
   try (simp [hw])
   repeat (refine sR ?_; simp [hw])
   refine sE ?_
   exact ⟨⟨i + 1, _, _, _⟩, ⟨hlt, htk2.app⟩, by simp only; omega, Weaks.mk htk2.app.le rfl (by simp [ToL, lk]) (by simp [BoxL, lk, hsucc])⟩
  ·refine sX ?_
   simp only [AU, ↓reduceIte]
   have : i = p.edges.length := by omega
   subst this
   have c1 := clone_c p.nodes hp.n
   have c2 := clone_c p.edges hp.e
   try (simp)
   repeat (refine sR ?_; simp)
   refine Stop.of_d (c1 _ _) ?_
   simp
   try (simp)
   repeat (refine sR ?_; simp)
   refine Stop.of_d (c2 _ _) ?_
   simp
   have htk3 := htk2.full.app.full.app
   try (simp)
   repeat (refine sR ?_; simp)
   refine sT ?_
   try simp only [AU]
   refine ⟨by simp, sF hbox htok htk3.old htk3.le ?_⟩
   simp [packA, exG_07]
end Go.AM
namespace Go.AM
open Go Go.Proofs
structure At where
 name : ByteArray
 lo : Int
 hi : Int
 names : List ByteArray
structure NT where
 name : ByteArray
 par : Int
 abs : Bool
 own : List At
structure ET where
 name : ByteArray
 fr : Int
 to : Int
 ol : Int
 oh : Int
 il : Int
 ih : Int
structure Ty where
 nodes : List NT
 edges : List ET
abbrev At.cells (a : At) : List D := [.raw (.string a.name), .raw (.int .i64 a.lo), .raw (.int .i64 a.hi), strs a.names]
abbrev atts (l : List At) : D := .sl 4 (l.map At.cells)
abbrev NT.cells (n : NT) : List D := [.raw (.string n.name), .raw (.int .i64 n.par), .raw (.bool n.abs), atts n.own]
abbrev ET.cells (e : ET) : List D := [.raw (.string e.name), .raw (.int .i64 e.fr), .raw (.int .i64 e.to), .raw (.int .i64 e.ol), .raw (.int .i64 e.oh), .raw (.int .i64 e.il), .raw (.int .i64 e.ih)]
abbrev nts (l : List NT) : D := .sl 4 (l.map NT.cells)
abbrev ets (l : List ET) : D := .sl 7 (l.map ET.cells)
abbrev Ty.av (t : Ty) : AV := .agg [.d (nts t.nodes), .d (ets t.edges)]
instance : Inhabited ByteArray := ⟨⟨#[]⟩⟩
abbrev eB : ByteArray := ⟨#[]⟩
def nmsAt (l : List ByteArray) (i : Nat) : Int := if nameB (l.getD i eB) = false then 2 else if memS (l.take i) (l.getD i eB) = true then 5 else 0
def nmsE (l : List ByteArray) : Int := if 20 < l.length then 3 else firstE (nmsAt l) l.length
structure NmFit (l : List ByteArray) : Prop where
 n : l.length ≤ 1000000
 s : ∀ x ∈ l, x.size ≤ 1000000000000
theorem strs_take (l : List ByteArray) (i : Nat) : strs (l.take i) = .sl 1 (List.take i (l.map fun s => [D.raw (.string s)])) := by rw [strs, List.map_take]
def stNm (l : List ByteArray) (nb : Nat) (box : Bxs) (tok : Tks) (nt : Nat) (i : Nat) : AState := ⟨tl [(10, I i), (9, I l.length), (8, .d (strs l)), (0, .d (strs l))], lb nb box [], tok, nt⟩
theorem names_c (l : List ByteArray) (hl : NmFit l) (tok : Tks) (nt : Nat) : DCall Tryz.prog 274 [.d (strs l)] tok nt (I (nmsE l)) tok nt := by
 intro box nb
 have hln := hl.n
 by_cases h20 : 20 < l.length
 ·have h20' : (20 : Int) < l.length := by omega
  rw [show nmsE l = 3 from if_pos h20]
  refine sB Tryz.func274 Tryz.ntmps274 ?_
  intro hbox htok
  simp only at hbox htok
  apply AL.start
  try (simp [h20'])
  repeat (refine sR ?_; simp [h20'])
  refine sC ?_
  simp
  try (simp)
  repeat (refine sR ?_; simp)
  refine sT ?_
  try simp only [AU]
  refine ⟨by simp, sF hbox htok (fun _ h => h) (Nat.le_refl _) ?_⟩
  simp [packA]
 ·have h20' : ¬ (20 : Int) < l.length := by omega
  have hE : nmsE l = firstE (nmsAt l) l.length := if_neg h20
  refine sB Tryz.func274 Tryz.ntmps274 ?_
  intro hbox htok
  simp only at hbox htok
  apply AL.start
  try (simp [h20'])
  repeat (refine sR ?_; simp [h20'])
  refine sC ?_
  simp
  try (simp)
  repeat (refine sR ?_; simp)
  refine sN ?_
  refine AL.loopT (stNm l nb box tok nt) (fun i => i ≤ l.length ∧ firstE (nmsAt l) i = 0) (fun i => l.length - i) 0 ⟨Nat.zero_le _, rfl⟩ (Weaks.mk (Nat.le_refl _) rfl (by simp [ToL, lk]) trivial) ?_
  rintro i S' ⟨hi, hok⟩ hS
  simp only [stNm] at hS
  subst hS
  have hw := sW (i := i) (by omega)
  have hR : i < l.length → nmsAt l i ≠ 0 → firstE (nmsAt l) l.length = nmsAt l i := fun hlt h0 => firstE_stop hok h0 l.length hlt
  try (simp)
  repeat (refine sR ?_; simp)
  refine sC ?_
  simp
  refine ⟨fun hlt => ?_, fun hge => ?_⟩
  ·have hg : l.getD i eB = l[i] := by simp [hlt]
   have hA : nmsAt l i = if nameB l[i] = false then 2 else if memS (l.take i) l[i] = true then 5 else 0 := by rw [nmsAt, hg]
   have hn := isName_c l[i] (Nat.le_trans (hl.s _ (List.getElem_mem hlt)) (by decide))
   have hc := containsS_c (l.take i) l[i] (by simp; omega)
   have hR := hR hlt
   try (simp [hlt, strs_at hlt])
   repeat (refine sR ?_; simp [hlt, strs_at hlt])
   refine Stop.of_d (hn _ _) ?_
   simp
   cases e1 : nameB l[i]
   ·rw [e1, if_pos rfl] at hA
    rw [hA] at hR
    have hR := hR (by decide)
    try (simp)
    repeat (refine sR ?_; simp)
    refine sC ?_
    simp
    try (simp)
    repeat (refine sR ?_; simp)
    refine sT ?_
    try simp only [AU]
    refine ⟨by simp, sF hbox htok (fun _ h => h) (Nat.le_refl _) ?_⟩
    simp [packA, hE, hR]
   ·rw [e1, if_neg (by simp)] at hA
    try (simp)
    repeat (refine sR ?_; simp)
    refine sC ?_
    simp
    try (simp)
    repeat (refine sR ?_; simp)
    refine ⟨by omega, ?_⟩
    rw [strs_take] at hc
    refine Stop.of_d (hc _ _) ?_
    simp
    cases e2 : memS (l.take i) l[i]
    ·rw [e2, if_neg (by simp)] at hA
     try (simp)
     repeat (refine sR ?_; simp)
     refine sC ?_
     simp
     try (simp [hw])
     repeat (refine sR ?_; simp [hw])
     refine sE ?_
     exact ⟨i + 1, ⟨hlt, by simp only [firstE, hok, hA, ↓reduceIte]⟩, by omega, Weaks.mk (Nat.le_refl _) rfl (by simp [ToL, lk]) trivial⟩
    ·rw [e2, if_pos rfl] at hA
     rw [hA] at hR
     have hR := hR (by decide)
     try (simp)
     repeat (refine sR ?_; simp)
     refine sC ?_
     simp
     try (simp)
     repeat (refine sR ?_; simp)
     refine sT ?_
     try simp only [AU]
     refine ⟨by simp, sF hbox htok (fun _ h => h) (Nat.le_refl _) ?_⟩
     simp [packA, hE, hR]
  ·refine sX ?_
   simp only [AU, ↓reduceIte]
   try (simp)
   repeat (refine sR ?_; simp)
   have : i = l.length := by omega
   subst this
   refine sT ?_
   try simp only [AU]
   refine ⟨by simp, sF hbox htok (fun _ h => h) (Nat.le_refl _) ?_⟩
   simp [packA, hE, hok]
end Go.AM
namespace Go.AM
open Go Go.Proofs
abbrev At.av (a : At) : AV := .agg [Sb a.name, I a.lo, I a.hi, .d (strs a.names)]
abbrev NT.av (n : NT) : AV := .agg [Sb n.name, I n.par, B n.abs, .d (atts n.own)]
abbrev ET.av (e : ET) : AV := .agg [Sb e.name, I e.fr, I e.to, I e.ol, I e.oh, I e.il, I e.ih]
theorem any_takeG {α : Type} {p : α → Bool} {xs : List α} {i : Nat} (h : i < xs.length) (h1 : ∀ x ∈ xs.take i, p x = false) (h2 : p xs[i] = true) : anyB p xs = true ∧ xs.findIdx p = i := by
 refine ⟨List.any_eq_true.2 ⟨_, List.getElem_mem h, h2⟩, ?_⟩
 rw [List.findIdx_eq h]
 refine ⟨h2, fun j hj => ?_⟩
 have := h1 xs[j] (by
  rw [List.mem_take_iff_getElem]
  exact ⟨j, by omega, rfl⟩)
 simpa using this
def stIA (xs : List At) (f : FuncId) (caps : List AV) (nb : Nat) (box : Bxs) (tok : Tks) (nt : Nat) (i : Nat) : AState := ⟨tl [(0, .d (atts xs)), (1, .fn (.func f) caps), (7, I xs.length), (8, I i)], lb nb box [], tok, nt⟩
theorem indexFuncA_c (xs : List At) (f : FuncId) (caps : List AV) (p : At → Bool) (hx : xs.length ≤ 1000000) (box : Bxs) (nb : Nat) (tok : Tks) (nt : Nat) (hc : ∀ c ∈ caps, OkIn (fun k => box k ≠ none) (fun _ => True) c)
  (hf : ∀ x ∈ xs, ∀ box' nb', Ext box box' → ACalls Tryz.prog f (x.av :: caps) ⟨box', nb', tok, nt⟩ fun v m => v = B (p x) ∧ m = ⟨box', nb', tok, nt⟩) :
  ACalls Tryz.prog 300 [.d (atts xs), .fn (.func f) caps] ⟨box, nb, tok, nt⟩ fun v m => v = I (if anyB p xs = true then (xs.findIdx p : Nat) else -1) ∧ m = ⟨box, nb, tok, nt⟩ := by
 refine sB Tryz.func300 Tryz.ntmps300 ?_
 intro hbox htok
 simp only at hbox htok
 apply AL.start
 try (simp)
 repeat (refine sR ?_; simp)
 refine sN ?_
 refine AL.loopT (stIA xs f caps nb box tok nt) (fun i => i ≤ xs.length ∧ ∀ x ∈ xs.take i, p x = false) (fun i => xs.length - i) 0 ⟨Nat.zero_le _, by simp⟩ (Weaks.mk (Nat.le_refl _) rfl (by simp [ToL]; exact .same (okFn hc hbox [] (by simp) rfl _)) trivial) ?_
 rintro i S' ⟨hi, htk⟩ hS
 simp only [stIA] at hS
 subst hS
 have hw := sW (i := i) (by omega)
 try (simp)
 repeat (refine sR ?_; simp)
 refine sC ?_
 simp
 refine ⟨fun hlt => ?_, fun hge => ?_⟩
 ·have hfx := hf xs[i] (List.getElem_mem _)
  have hpx : p xs[i] = true → anyB p xs = true ∧ (xs.findIdx p = i) := fun he => any_takeG hlt htk he
  have hmore : p xs[i] = false → ∀ x ∈ xs.take (i + 1), p x = false := fun he x hx => by
   rw [List.take_succ_eq_append_getElem hlt] at hx
   rcases List.mem_append.1 hx with hx | hx
   ·exact htk x hx
   ·simp at hx; rw [hx]; exact he
  try (simp [hlt])
  repeat (refine sR ?_; simp [hlt])
  generalize xs[i] = x at *
  refine Stop.of_b (hfx _ _ ((Ext.refl box).lb hbox [])) ?_
  simp
  cases he : p x
  ·refine sC ?_
   simp
   try (simp [hw])
   repeat (refine sR ?_; simp [hw])
   refine sE ?_
   refine ⟨i + 1, ⟨hlt, ?_⟩, by omega, Weaks.mk (Nat.le_refl _) rfl (by simp [ToL]; exact .same (okFn hc hbox [] (by simp) rfl _)) trivial⟩
   exact hmore he
  ·obtain ⟨h1, h2⟩ := hpx he
   refine sC ?_
   simp
   try (simp)
   repeat (refine sR ?_; simp)
   refine sT ?_
   try simp only [AU]
   refine ⟨by simp, sF hbox htok (fun _ h => h) (Nat.le_refl _) ?_⟩
   simp [packA, h1, h2]
 ·have hn : anyB p xs = false := by
   rw [List.take_of_length_le hge] at htk
   simpa [anyB] using htk
  refine sX ?_
  simp only [AU, ↓reduceIte]
  try (simp)
  repeat (refine sR ?_; simp)
  refine sT ?_
  try simp only [AU]
  refine ⟨by simp, sF hbox htok (fun _ h => h) (Nat.le_refl _) ?_⟩
  simp [packA, hn]
theorem containsFuncA_c (xs : List At) (f : FuncId) (caps : List AV) (p : At → Bool) (hx : xs.length ≤ 1000000) (box : Bxs) (nb : Nat) (tok : Tks) (nt : Nat) (hc : ∀ c ∈ caps, OkIn (fun k => box k ≠ none) (fun _ => True) c)
  (hf : ∀ x ∈ xs, ∀ box' nb', Ext box box' → ACalls Tryz.prog f (x.av :: caps) ⟨box', nb', tok, nt⟩ fun v m => v = B (p x) ∧ m = ⟨box', nb', tok, nt⟩) :
  ACalls Tryz.prog 272 [.d (atts xs), .fn (.func f) caps] ⟨box, nb, tok, nt⟩ fun v m => v = B (anyB p xs) ∧ m = ⟨box, nb, tok, nt⟩ := by
 obtain ⟨A, hany⟩ : ∃ A, anyB p xs = A := ⟨_, rfl⟩
 have hi := fun b nb' h1 h2 => indexFuncA_c xs f caps p hx b nb' tok nt h1 h2
 rw [hany]
 simp only [hany] at hi
 refine sB Tryz.func272 Tryz.ntmps272 ?_
 intro hbox htok
 simp only at hbox htok
 apply AL.start
 try (simp)
 repeat (refine sR ?_; simp)
 refine Stop.of_b (hi (lb nb box []) _ (fun c h => (hc c h).mono (fun k hk => by rw [hbox]; exact hk) fun _ h => h) (fun x hx' box' nb' he => hf x hx' box' nb' (by rw [hbox] at he; exact he))) ?_
 simp
 cases A
 ·try (simp)
  repeat (refine sR ?_; simp)
  refine sT ?_
  try simp only [AU]
  refine ⟨by simp, sF hbox htok (fun _ h => h) (Nat.le_refl _) ?_⟩
  simp [packA]
 ·have h0 : (0 : Int) ≤ (xs.findIdx p : Nat) := by omega
  try (simp)
  repeat (refine sR ?_; simp)
  refine sT ?_
  try simp only [AU]
  refine ⟨by simp, sF hbox htok (fun _ h => h) (Nat.le_refl _) ?_⟩
  simp [packA, h0]
def stIN (xs : List NT) (f : FuncId) (caps : List AV) (nb : Nat) (box : Bxs) (tok : Tks) (nt : Nat) (i : Nat) : AState := ⟨tl [(0, .d (nts xs)), (1, .fn (.func f) caps), (7, I xs.length), (8, I i)], lb nb box [], tok, nt⟩
theorem indexFuncN_c (xs : List NT) (f : FuncId) (caps : List AV) (p : NT → Bool) (hx : xs.length ≤ 1000000) (box : Bxs) (nb : Nat) (tok : Tks) (nt : Nat) (hc : ∀ c ∈ caps, OkIn (fun k => box k ≠ none) (fun _ => True) c)
  (hf : ∀ x ∈ xs, ∀ box' nb', Ext box box' → ACalls Tryz.prog f (x.av :: caps) ⟨box', nb', tok, nt⟩ fun v m => v = B (p x) ∧ m = ⟨box', nb', tok, nt⟩) :
  ACalls Tryz.prog 271 [.d (nts xs), .fn (.func f) caps] ⟨box, nb, tok, nt⟩ fun v m => v = I (if anyB p xs = true then (xs.findIdx p : Nat) else -1) ∧ m = ⟨box, nb, tok, nt⟩ := by
 refine sB Tryz.func271 Tryz.ntmps271 ?_
 intro hbox htok
 simp only at hbox htok
 apply AL.start
 try (simp)
 repeat (refine sR ?_; simp)
 refine sN ?_
 refine AL.loopT (stIN xs f caps nb box tok nt) (fun i => i ≤ xs.length ∧ ∀ x ∈ xs.take i, p x = false) (fun i => xs.length - i) 0 ⟨Nat.zero_le _, by simp⟩ (Weaks.mk (Nat.le_refl _) rfl (by simp [ToL]; exact .same (okFn hc hbox [] (by simp) rfl _)) trivial) ?_
 rintro i S' ⟨hi, htk⟩ hS
 simp only [stIN] at hS
 subst hS
 have hw := sW (i := i) (by omega)
 try (simp)
 repeat (refine sR ?_; simp)
 refine sC ?_
 simp
 refine ⟨fun hlt => ?_, fun hge => ?_⟩
 ·have hfx := hf xs[i] (List.getElem_mem _)
  have hpx : p xs[i] = true → anyB p xs = true ∧ (xs.findIdx p = i) := fun he => any_takeG hlt htk he
  have hmore : p xs[i] = false → ∀ x ∈ xs.take (i + 1), p x = false := fun he x hx => by
   rw [List.take_succ_eq_append_getElem hlt] at hx
   rcases List.mem_append.1 hx with hx | hx
   ·exact htk x hx
   ·simp at hx; rw [hx]; exact he
  try (simp [hlt])
  repeat (refine sR ?_; simp [hlt])
  generalize xs[i] = x at *
  refine Stop.of_b (hfx _ _ ((Ext.refl box).lb hbox [])) ?_
  simp
  cases he : p x
  ·refine sC ?_
   simp
   try (simp [hw])
   repeat (refine sR ?_; simp [hw])
   refine sE ?_
   refine ⟨i + 1, ⟨hlt, ?_⟩, by omega, Weaks.mk (Nat.le_refl _) rfl (by simp [ToL]; exact .same (okFn hc hbox [] (by simp) rfl _)) trivial⟩
   exact hmore he
  ·obtain ⟨h1, h2⟩ := hpx he
   refine sC ?_
   simp
   try (simp)
   repeat (refine sR ?_; simp)
   refine sT ?_
   try simp only [AU]
   refine ⟨by simp, sF hbox htok (fun _ h => h) (Nat.le_refl _) ?_⟩
   simp [packA, h1, h2]
 ·have hn : anyB p xs = false := by
   rw [List.take_of_length_le hge] at htk
   simpa [anyB] using htk
  refine sX ?_
  simp only [AU, ↓reduceIte]
  try (simp)
  repeat (refine sR ?_; simp)
  refine sT ?_
  try simp only [AU]
  refine ⟨by simp, sF hbox htok (fun _ h => h) (Nat.le_refl _) ?_⟩
  simp [packA, hn]
theorem containsFuncN_c (xs : List NT) (f : FuncId) (caps : List AV) (p : NT → Bool) (hx : xs.length ≤ 1000000) (box : Bxs) (nb : Nat) (tok : Tks) (nt : Nat) (hc : ∀ c ∈ caps, OkIn (fun k => box k ≠ none) (fun _ => True) c)
  (hf : ∀ x ∈ xs, ∀ box' nb', Ext box box' → ACalls Tryz.prog f (x.av :: caps) ⟨box', nb', tok, nt⟩ fun v m => v = B (p x) ∧ m = ⟨box', nb', tok, nt⟩) :
  ACalls Tryz.prog 221 [.d (nts xs), .fn (.func f) caps] ⟨box, nb, tok, nt⟩ fun v m => v = B (anyB p xs) ∧ m = ⟨box, nb, tok, nt⟩ := by
 obtain ⟨A, hany⟩ : ∃ A, anyB p xs = A := ⟨_, rfl⟩
 have hi := fun b nb' h1 h2 => indexFuncN_c xs f caps p hx b nb' tok nt h1 h2
 rw [hany]
 simp only [hany] at hi
 refine sB Tryz.func221 Tryz.ntmps221 ?_
 intro hbox htok
 simp only at hbox htok
 apply AL.start
 try (simp)
 repeat (refine sR ?_; simp)
 refine Stop.of_b (hi (lb nb box []) _ (fun c h => (hc c h).mono (fun k hk => by rw [hbox]; exact hk) fun _ h => h) (fun x hx' box' nb' he => hf x hx' box' nb' (by rw [hbox] at he; exact he))) ?_
 simp
 cases A
 ·try (simp)
  repeat (refine sR ?_; simp)
  refine sT ?_
  try simp only [AU]
  refine ⟨by simp, sF hbox htok (fun _ h => h) (Nat.le_refl _) ?_⟩
  simp [packA]
 ·have h0 : (0 : Int) ≤ (xs.findIdx p : Nat) := by omega
  try (simp)
  repeat (refine sR ?_; simp)
  refine sT ?_
  try simp only [AU]
  refine ⟨by simp, sF hbox htok (fun _ h => h) (Nat.le_refl _) ?_⟩
  simp [packA, h0]
def stIE2 (xs : List ET) (f : FuncId) (caps : List AV) (nb : Nat) (box : Bxs) (tok : Tks) (nt : Nat) (i : Nat) : AState := ⟨tl [(0, .d (ets xs)), (1, .fn (.func f) caps), (7, I xs.length), (8, I i)], lb nb box [], tok, nt⟩
theorem indexFuncE2_c (xs : List ET) (f : FuncId) (caps : List AV) (p : ET → Bool) (hx : xs.length ≤ 1000000) (box : Bxs) (nb : Nat) (tok : Tks) (nt : Nat) (hc : ∀ c ∈ caps, OkIn (fun k => box k ≠ none) (fun _ => True) c)
  (hf : ∀ x ∈ xs, ∀ box' nb', Ext box box' → ACalls Tryz.prog f (x.av :: caps) ⟨box', nb', tok, nt⟩ fun v m => v = B (p x) ∧ m = ⟨box', nb', tok, nt⟩) :
  ACalls Tryz.prog 275 [.d (ets xs), .fn (.func f) caps] ⟨box, nb, tok, nt⟩ fun v m => v = I (if anyB p xs = true then (xs.findIdx p : Nat) else -1) ∧ m = ⟨box, nb, tok, nt⟩ := by
 refine sB Tryz.func275 Tryz.ntmps275 ?_
 intro hbox htok
 simp only at hbox htok
 apply AL.start
 try (simp)
 repeat (refine sR ?_; simp)
 refine sN ?_
 refine AL.loopT (stIE2 xs f caps nb box tok nt) (fun i => i ≤ xs.length ∧ ∀ x ∈ xs.take i, p x = false) (fun i => xs.length - i) 0 ⟨Nat.zero_le _, by simp⟩ (Weaks.mk (Nat.le_refl _) rfl (by simp [ToL]; exact .same (okFn hc hbox [] (by simp) rfl _)) trivial) ?_
 rintro i S' ⟨hi, htk⟩ hS
 simp only [stIE2] at hS
 subst hS
 have hw := sW (i := i) (by omega)
 try (simp)
 repeat (refine sR ?_; simp)
 refine sC ?_
 simp
 refine ⟨fun hlt => ?_, fun hge => ?_⟩
 ·have hfx := hf xs[i] (List.getElem_mem _)
  have hpx : p xs[i] = true → anyB p xs = true ∧ (xs.findIdx p = i) := fun he => any_takeG hlt htk he
  have hmore : p xs[i] = false → ∀ x ∈ xs.take (i + 1), p x = false := fun he x hx => by
   rw [List.take_succ_eq_append_getElem hlt] at hx
   rcases List.mem_append.1 hx with hx | hx
   ·exact htk x hx
   ·simp at hx; rw [hx]; exact he
  try (simp [hlt])
  repeat (refine sR ?_; simp [hlt])
  generalize xs[i] = x at *
  refine Stop.of_b (hfx _ _ ((Ext.refl box).lb hbox [])) ?_
  simp
  cases he : p x
  ·refine sC ?_
   simp
   try (simp [hw])
   repeat (refine sR ?_; simp [hw])
   refine sE ?_
   refine ⟨i + 1, ⟨hlt, ?_⟩, by omega, Weaks.mk (Nat.le_refl _) rfl (by simp [ToL]; exact .same (okFn hc hbox [] (by simp) rfl _)) trivial⟩
   exact hmore he
  ·obtain ⟨h1, h2⟩ := hpx he
   refine sC ?_
   simp
   try (simp)
   repeat (refine sR ?_; simp)
   refine sT ?_
   try simp only [AU]
   refine ⟨by simp, sF hbox htok (fun _ h => h) (Nat.le_refl _) ?_⟩
   simp [packA, h1, h2]
 ·have hn : anyB p xs = false := by
   rw [List.take_of_length_le hge] at htk
   simpa [anyB] using htk
  refine sX ?_
  simp only [AU, ↓reduceIte]
  try (simp)
  repeat (refine sR ?_; simp)
  refine sT ?_
  try simp only [AU]
  refine ⟨by simp, sF hbox htok (fun _ h => h) (Nat.le_refl _) ?_⟩
  simp [packA, hn]
theorem containsFuncE2_c (xs : List ET) (f : FuncId) (caps : List AV) (p : ET → Bool) (hx : xs.length ≤ 1000000) (box : Bxs) (nb : Nat) (tok : Tks) (nt : Nat) (hc : ∀ c ∈ caps, OkIn (fun k => box k ≠ none) (fun _ => True) c)
  (hf : ∀ x ∈ xs, ∀ box' nb', Ext box box' → ACalls Tryz.prog f (x.av :: caps) ⟨box', nb', tok, nt⟩ fun v m => v = B (p x) ∧ m = ⟨box', nb', tok, nt⟩) :
  ACalls Tryz.prog 226 [.d (ets xs), .fn (.func f) caps] ⟨box, nb, tok, nt⟩ fun v m => v = B (anyB p xs) ∧ m = ⟨box, nb, tok, nt⟩ := by
 obtain ⟨A, hany⟩ : ∃ A, anyB p xs = A := ⟨_, rfl⟩
 have hi := fun b nb' h1 h2 => indexFuncE2_c xs f caps p hx b nb' tok nt h1 h2
 rw [hany]
 simp only [hany] at hi
 refine sB Tryz.func226 Tryz.ntmps226 ?_
 intro hbox htok
 simp only at hbox htok
 apply AL.start
 try (simp)
 repeat (refine sR ?_; simp)
 refine Stop.of_b (hi (lb nb box []) _ (fun c h => (hc c h).mono (fun k hk => by rw [hbox]; exact hk) fun _ h => h) (fun x hx' box' nb' he => hf x hx' box' nb' (by rw [hbox] at he; exact he))) ?_
 simp
 cases A
 ·try (simp)
  repeat (refine sR ?_; simp)
  refine sT ?_
  try simp only [AU]
  refine ⟨by simp, sF hbox htok (fun _ h => h) (Nat.le_refl _) ?_⟩
  simp [packA]
 ·have h0 : (0 : Int) ≤ (xs.findIdx p : Nat) := by omega
  try (simp)
  repeat (refine sR ?_; simp)
  refine sT ?_
  try simp only [AU]
  refine ⟨by simp, sF hbox htok (fun _ h => h) (Nat.le_refl _) ?_⟩
  simp [packA, h0]
end Go.AM
namespace Go.AM
open Go Go.Proofs
abbrev At.row (a : At) : List AV := [Sb a.name, I a.lo, I a.hi, .d (strs a.names)]
theorem attr1_c (x y : At) (box : Bxs) (nb k : Nat) (tok : Tks) (nt : Nat) (h1 : box k = some [x.row]) :
  ACalls Tryz.prog 273 [y.av, .ptr k 0 0] ⟨box, nb, tok, nt⟩ fun v m => v = B (decide (y.name = x.name)) ∧ m = ⟨box, nb, tok, nt⟩ := by
 refine sB Tryz.func273 Tryz.ntmps273 ?_
 intro hbox htok
 simp only at hbox htok
 apply AL.start
 have k1n := key_lt hbox h1
 rw [← seq_dec]
 try (simp [lb_out k1n, h1])
 repeat (refine sR ?_; simp [lb_out k1n, h1])
 refine sT ?_
 try simp only [AU]
 refine ⟨by simp, sF hbox htok (fun _ h => h) (Nat.le_refl _) ?_⟩
 simp [packA]
def rngA (x : At) : Bool := if x.names.length = 0 then decide (-1000000 ≤ x.lo ∧ x.lo ≤ x.hi ∧ x.hi ≤ 1000000) else decide (x.lo = 0 ∧ x.hi = (x.names.length : Int) - 1)
def attE (x : At) (before : List At) : Int := if nameB x.name = false then 2 else if anyB (fun y => decide (y.name = x.name)) before = true then 5 else if nmsE x.names ≠ 0 then nmsE x.names else if rngA x = true then 0 else 6
structure At.Fit (a : At) : Prop where
 n : a.name.size ≤ 1000000000000
 l : NmFit a.names
theorem attribute_c (x : At) (before : List At) (hx : x.Fit) (hb : before.length ≤ 1000000) (tok : Tks) (nt : Nat) : DCall Tryz.prog 224 [x.av, .d (atts before)] tok nt (I (attE x before)) tok nt := by
 intro box nb
 have h1 := isName_c x.name (Nat.le_trans hx.n (by decide))
 have h3 := names_c x.names hx.l
 cases e1 : nameB x.name
 ·rw [e1] at h1
  rw [show attE x before = 2 by rw [attE, if_pos e1]]
  refine sB Tryz.func224 Tryz.ntmps224 ?_
  intro hbox htok
  simp only at hbox htok
  apply AL.start
  try (simp)
  repeat (refine sR ?_; simp)
  refine Stop.of_d (h1 _ _) ?_
  simp
  try (simp)
  repeat (refine sR ?_; simp)
  refine sC ?_
  simp
  try (simp)
  repeat (refine sR ?_; simp)
  refine sT ?_
  try simp only [AU]
  refine ⟨by simp, sF hbox htok (fun _ h => h) (Nat.le_refl _) ?_⟩
  simp [packA]
 ·rw [e1] at h1
  have hA : attE x before = if anyB (fun y => decide (y.name = x.name)) before = true then 5 else if nmsE x.names ≠ 0 then nmsE x.names else if rngA x = true then 0 else 6 := by rw [attE, if_neg (by simp [e1])]
  obtain ⟨N, hN⟩ : ∃ N, attE x before = N := ⟨_, rfl⟩
  rw [hN] at hA ⊢
  obtain ⟨p, hp⟩ : ∃ p : At → Bool, (fun y => decide (y.name = x.name)) = p := ⟨_, rfl⟩
  have h2 := fun y box nb k h => attr1_c x y box nb k tok nt h
  have hpp : ∀ y : At, decide (y.name = x.name) = p y := fun y => by rw [← hp]
  simp only [hpp] at h2
  rw [hp] at hA
  have hcap : ∀ c ∈ [AV.ptr (nb + 2) 0 0], OkIn (fun k => (lb nb box [(2, [x.row])]) k ≠ none) (fun _ => True) c := by
   intro c hc
   rw [List.mem_singleton.1 hc]
   simp [lb_at]
  refine sB Tryz.func224 Tryz.ntmps224 ?_
  intro hbox htok
  simp only at hbox htok
  apply AL.start
  try (simp)
  repeat (refine sR ?_; simp)
  refine Stop.of_d (h1 _ _) ?_
  simp
  try (simp)
  repeat (refine sR ?_; simp)
  refine sC ?_
  simp
  try (simp)
  repeat (refine sR ?_; simp)
  refine Stop.of_b (containsFuncA_c before 273 [.ptr (nb + 2) 0 0] p hb _ _ _ _ hcap (fun y hy box' nb' he => h2 y box' nb' _ (he _ _ (by simp [lb_at])))) ?_
  simp
  try (simp)
  repeat (refine sR ?_; simp)
  cases e2 : anyB p before
  ·rw [e2, if_neg (by simp)] at hA
   refine sC ?_
   simp
   try (simp)
   repeat (refine sR ?_; simp)
   refine Stop.of_d (h3 _ _) ?_
   simp
   try (simp)
   repeat (refine sR ?_; simp)
   by_cases e3 : nmsE x.names = 0
   ·rw [if_neg (by simp [e3])] at hA
    simp only [e3]
    refine sC ?_
    simp
    by_cases c1 : -1000000 ≤ x.lo
    ·by_cases c2 : x.lo ≤ x.hi
     ·by_cases c3 : x.hi ≤ 1000000
      ·try (simp [c1, c2, c3])
       repeat (refine sR ?_; simp [c1, c2, c3])
       by_cases z : x.names.length = 0
       ·have z2 : ¬ 0 < x.names.length := by omega
        have hr : rngA x = true := by rw [rngA, if_pos z]; simp only [decide_eq_true_eq, decide_eq_false_iff_not]; omega
        rw [hr] at hA
        refine sC ?_
        simp [z2]
        try (simp)
        repeat (refine sR ?_; simp)
        refine sC ?_
        simp
        try (simp)
        repeat (refine sR ?_; simp)
        refine sT ?_
        try simp only [AU]
        refine ⟨by simp, sF hbox htok (fun _ h => h) (Nat.le_refl _) ?_⟩
        simp [packA, hA]
       ·have z2 : 0 < x.names.length := by omega
        have hr : rngA x = decide (x.lo = 0 ∧ x.hi = (x.names.length : Int) - 1) := if_neg z
        rw [hr] at hA
        have hln := hx.l.n
        have w : IntKind.i64.wrap ((x.names.length : Int) - 1) = (x.names.length : Int) - 1 := wrap_in (by omega) (by omega)
        by_cases l0 : x.lo = 0
        ·have b0 : (x.lo == 0) = true := by simp [l0]
         by_cases h0 : x.hi = (x.names.length : Int) - 1
         ·have b1 : (x.hi == (x.names.length : Int) - 1) = true := by simp [h0]
          refine sC ?_
          simp [z2]
          try (simp [w, b0, b1])
          repeat (refine sR ?_; simp [w, b0, b1])
          refine sC ?_
          simp
          try (simp)
          repeat (refine sR ?_; simp)
          refine sT ?_
          try simp only [AU]
          refine ⟨by simp, sF hbox htok (fun _ h => h) (Nat.le_refl _) ?_⟩
          simp [packA, hA, l0, h0]
         ·have b1 : (x.hi == (x.names.length : Int) - 1) = false := by simp [h0]
          refine sC ?_
          simp [z2]
          try (simp [w, b0, b1])
          repeat (refine sR ?_; simp [w, b0, b1])
          refine sC ?_
          simp
          try (simp)
          repeat (refine sR ?_; simp)
          refine sT ?_
          try simp only [AU]
          refine ⟨by simp, sF hbox htok (fun _ h => h) (Nat.le_refl _) ?_⟩
          simp [packA, hA, l0, h0]
        ·have b0 : (x.lo == 0) = false := by simp [l0]
         refine sC ?_
         simp [z2]
         try (simp [w, b0])
         repeat (refine sR ?_; simp [w, b0])
         refine sC ?_
         simp
         try (simp)
         repeat (refine sR ?_; simp)
         refine sT ?_
         try simp only [AU]
         refine ⟨by simp, sF hbox htok (fun _ h => h) (Nat.le_refl _) ?_⟩
         simp [packA, hA, l0]
      ·try (simp [c1, c2, c3])
       repeat (refine sR ?_; simp [c1, c2, c3])
       by_cases z : x.names.length = 0
       ·have z2 : ¬ 0 < x.names.length := by omega
        have hr : rngA x = false := by rw [rngA, if_pos z]; simp only [decide_eq_true_eq, decide_eq_false_iff_not]; omega
        rw [hr] at hA
        refine sC ?_
        simp [z2]
        try (simp)
        repeat (refine sR ?_; simp)
        refine sC ?_
        simp
        try (simp)
        repeat (refine sR ?_; simp)
        refine sT ?_
        try simp only [AU]
        refine ⟨by simp, sF hbox htok (fun _ h => h) (Nat.le_refl _) ?_⟩
        simp [packA, hA]
       ·have z2 : 0 < x.names.length := by omega
        have hr : rngA x = decide (x.lo = 0 ∧ x.hi = (x.names.length : Int) - 1) := if_neg z
        rw [hr] at hA
        have hln := hx.l.n
        have w : IntKind.i64.wrap ((x.names.length : Int) - 1) = (x.names.length : Int) - 1 := wrap_in (by omega) (by omega)
        by_cases l0 : x.lo = 0
        ·have b0 : (x.lo == 0) = true := by simp [l0]
         by_cases h0 : x.hi = (x.names.length : Int) - 1
         ·have b1 : (x.hi == (x.names.length : Int) - 1) = true := by simp [h0]
          refine sC ?_
          simp [z2]
          try (simp [w, b0, b1])
          repeat (refine sR ?_; simp [w, b0, b1])
          refine sC ?_
          simp
          try (simp)
          repeat (refine sR ?_; simp)
          refine sT ?_
          try simp only [AU]
          refine ⟨by simp, sF hbox htok (fun _ h => h) (Nat.le_refl _) ?_⟩
          simp [packA, hA, l0, h0]
         ·have b1 : (x.hi == (x.names.length : Int) - 1) = false := by simp [h0]
          refine sC ?_
          simp [z2]
          try (simp [w, b0, b1])
          repeat (refine sR ?_; simp [w, b0, b1])
          refine sC ?_
          simp
          try (simp)
          repeat (refine sR ?_; simp)
          refine sT ?_
          try simp only [AU]
          refine ⟨by simp, sF hbox htok (fun _ h => h) (Nat.le_refl _) ?_⟩
          simp [packA, hA, l0, h0]
        ·have b0 : (x.lo == 0) = false := by simp [l0]
         refine sC ?_
         simp [z2]
         try (simp [w, b0])
         repeat (refine sR ?_; simp [w, b0])
         refine sC ?_
         simp
         try (simp)
         repeat (refine sR ?_; simp)
         refine sT ?_
         try simp only [AU]
         refine ⟨by simp, sF hbox htok (fun _ h => h) (Nat.le_refl _) ?_⟩
         simp [packA, hA, l0]
     ·try (simp [c1, c2])
      repeat (refine sR ?_; simp [c1, c2])
      by_cases z : x.names.length = 0
      ·have z2 : ¬ 0 < x.names.length := by omega
       have hr : rngA x = false := by rw [rngA, if_pos z]; simp only [decide_eq_true_eq, decide_eq_false_iff_not]; omega
       rw [hr] at hA
       refine sC ?_
       simp [z2]
       try (simp)
       repeat (refine sR ?_; simp)
       refine sC ?_
       simp
       try (simp)
       repeat (refine sR ?_; simp)
       refine sT ?_
       try simp only [AU]
       refine ⟨by simp, sF hbox htok (fun _ h => h) (Nat.le_refl _) ?_⟩
       simp [packA, hA]
      ·have z2 : 0 < x.names.length := by omega
       have hr : rngA x = decide (x.lo = 0 ∧ x.hi = (x.names.length : Int) - 1) := if_neg z
       rw [hr] at hA
       have hln := hx.l.n
       have w : IntKind.i64.wrap ((x.names.length : Int) - 1) = (x.names.length : Int) - 1 := wrap_in (by omega) (by omega)
       by_cases l0 : x.lo = 0
       ·have b0 : (x.lo == 0) = true := by simp [l0]
        by_cases h0 : x.hi = (x.names.length : Int) - 1
        ·have b1 : (x.hi == (x.names.length : Int) - 1) = true := by simp [h0]
         refine sC ?_
         simp [z2]
         try (simp [w, b0, b1])
         repeat (refine sR ?_; simp [w, b0, b1])
         refine sC ?_
         simp
         try (simp)
         repeat (refine sR ?_; simp)
         refine sT ?_
         try simp only [AU]
         refine ⟨by simp, sF hbox htok (fun _ h => h) (Nat.le_refl _) ?_⟩
         simp [packA, hA, l0, h0]
        ·have b1 : (x.hi == (x.names.length : Int) - 1) = false := by simp [h0]
         refine sC ?_
         simp [z2]
         try (simp [w, b0, b1])
         repeat (refine sR ?_; simp [w, b0, b1])
         refine sC ?_
         simp
         try (simp)
         repeat (refine sR ?_; simp)
         refine sT ?_
         try simp only [AU]
         refine ⟨by simp, sF hbox htok (fun _ h => h) (Nat.le_refl _) ?_⟩
         simp [packA, hA, l0, h0]
       ·have b0 : (x.lo == 0) = false := by simp [l0]
        refine sC ?_
        simp [z2]
        try (simp [w, b0])
        repeat (refine sR ?_; simp [w, b0])
        refine sC ?_
        simp
        try (simp)
        repeat (refine sR ?_; simp)
        refine sT ?_
        try simp only [AU]
        refine ⟨by simp, sF hbox htok (fun _ h => h) (Nat.le_refl _) ?_⟩
        simp [packA, hA, l0]
    ·try (simp [c1])
     repeat (refine sR ?_; simp [c1])
     by_cases z : x.names.length = 0
     ·have z2 : ¬ 0 < x.names.length := by omega
      have hr : rngA x = false := by rw [rngA, if_pos z]; simp only [decide_eq_true_eq, decide_eq_false_iff_not]; omega
      rw [hr] at hA
      refine sC ?_
      simp [z2]
      try (simp)
      repeat (refine sR ?_; simp)
      refine sC ?_
      simp
      try (simp)
      repeat (refine sR ?_; simp)
      refine sT ?_
      try simp only [AU]
      refine ⟨by simp, sF hbox htok (fun _ h => h) (Nat.le_refl _) ?_⟩
      simp [packA, hA]
     ·have z2 : 0 < x.names.length := by omega
      have hr : rngA x = decide (x.lo = 0 ∧ x.hi = (x.names.length : Int) - 1) := if_neg z
      rw [hr] at hA
      have hln := hx.l.n
      have w : IntKind.i64.wrap ((x.names.length : Int) - 1) = (x.names.length : Int) - 1 := wrap_in (by omega) (by omega)
      by_cases l0 : x.lo = 0
      ·have b0 : (x.lo == 0) = true := by simp [l0]
       by_cases h0 : x.hi = (x.names.length : Int) - 1
       ·have b1 : (x.hi == (x.names.length : Int) - 1) = true := by simp [h0]
        refine sC ?_
        simp [z2]
        try (simp [w, b0, b1])
        repeat (refine sR ?_; simp [w, b0, b1])
        refine sC ?_
        simp
        try (simp)
        repeat (refine sR ?_; simp)
        refine sT ?_
        try simp only [AU]
        refine ⟨by simp, sF hbox htok (fun _ h => h) (Nat.le_refl _) ?_⟩
        simp [packA, hA, l0, h0]
       ·have b1 : (x.hi == (x.names.length : Int) - 1) = false := by simp [h0]
        refine sC ?_
        simp [z2]
        try (simp [w, b0, b1])
        repeat (refine sR ?_; simp [w, b0, b1])
        refine sC ?_
        simp
        try (simp)
        repeat (refine sR ?_; simp)
        refine sT ?_
        try simp only [AU]
        refine ⟨by simp, sF hbox htok (fun _ h => h) (Nat.le_refl _) ?_⟩
        simp [packA, hA, l0, h0]
      ·have b0 : (x.lo == 0) = false := by simp [l0]
       refine sC ?_
       simp [z2]
       try (simp [w, b0])
       repeat (refine sR ?_; simp [w, b0])
       refine sC ?_
       simp
       try (simp)
       repeat (refine sR ?_; simp)
       refine sT ?_
       try simp only [AU]
       refine ⟨by simp, sF hbox htok (fun _ h => h) (Nat.le_refl _) ?_⟩
       simp [packA, hA, l0]
   ·rw [if_pos e3] at hA
    have b3 : (nmsE x.names != 0) = true := by simp [e3]
    simp only [b3]
    refine sC ?_
    simp
    try (simp)
    repeat (refine sR ?_; simp)
    refine sT ?_
    try simp only [AU]
    refine ⟨by simp, sF hbox htok (fun _ h => h) (Nat.le_refl _) ?_⟩
    simp [packA, hA]
  ·rw [e2, if_pos rfl] at hA
   refine sC ?_
   simp
   try (simp)
   repeat (refine sR ?_; simp)
   refine sT ?_
   try simp only [AU]
   refine ⟨by simp, sF hbox htok (fun _ h => h) (Nat.le_refl _) ?_⟩
   simp [packA, hA]
end Go.AM
namespace Go.AM
open Go Go.Proofs
end Go.AM
namespace Go.AM
open Go Go.Proofs
instance : Inhabited NT := ⟨⟨eB, 0, false, []⟩⟩
def Ty.nd (t : Ty) (i : Nat) : NT := t.nodes.getD i default
def atsL (t : Ty) (i : Nat) : List At := if h : 0 ≤ (t.nd i).par ∧ (t.nd i).par.toNat < i then atsL t (t.nd i).par.toNat ++ (t.nd i).own else (t.nd i).own
termination_by i
decreasing_by exact h.2
theorem atsL_up {t : Ty} {i : Nat} (h : 0 ≤ (t.nd i).par) (h2 : (t.nd i).par.toNat < i) : atsL t i = atsL t (t.nd i).par.toNat ++ (t.nd i).own := by rw [atsL, dif_pos ⟨h, h2⟩]
theorem atsL_top {t : Ty} {i : Nat} (h : ¬ 0 ≤ (t.nd i).par) : atsL t i = (t.nd i).own := by rw [atsL, dif_neg fun h2 => h h2.1]
theorem atsL_len {t : Ty} {M : Nat} (hM : ∀ i, (t.nd i).own.length ≤ M) : ∀ n i, i < n → (atsL t i).length ≤ (i + 1) * M
 | 0, i, hi => absurd hi (Nat.not_lt_zero _)
 | n + 1, i, hi => by
  have hm := hM i
  by_cases h : 0 ≤ (t.nd i).par ∧ (t.nd i).par.toNat < i
  ·have ih := atsL_len hM n (t.nd i).par.toNat (by omega)
   rw [atsL_up h.1 h.2, List.length_append]
   have : ((t.nd i).par.toNat + 1) * M ≤ i * M := Nat.mul_le_mul_right _ (by omega)
   rw [Nat.add_mul, Nat.one_mul]
   omega
  ·rw [atsL, dif_neg h]
   have : M ≤ (i + 1) * M := Nat.le_mul_of_pos_left _ (by omega)
   omega
structure Ty.Fit (t : Ty) : Prop where
 n : t.nodes.length ≤ 1000
 e : t.edges.length ≤ 1000
 nn : ∀ x ∈ t.nodes, x.name.size ≤ 1000000000000
 en : ∀ x ∈ t.edges, x.name.size ≤ 1000000000000
 a : ∀ x ∈ t.nodes, x.own.length ≤ 1000 ∧ ∀ y ∈ x.own, y.Fit
theorem nd_at {t : Ty} {i : Nat} (h : i < t.nodes.length) : t.nd i = t.nodes[i] := by simp [Ty.nd, h]
theorem attrs_c (t : Ty) (ht : t.Fit) (hM : ∀ i, (t.nd i).own.length ≤ 1000) : ∀ (n i : Nat), i < n → i < t.nodes.length → (∀ j, j ≤ i → (t.nd j).par < j) → ∀ (tok : Tks) (nt : Nat), ∃ tok' nt' o, ((∀ q, tok q = true → q < nt) → TK tok nt tok' nt' [o]) ∧
  DCall Tryz.prog 223 [t.av, I i] tok nt (.osl 4 ((atsL t i).map At.cells) o) tok' nt'
 | 0, i, hi, _, _, _, _ => absurd hi (Nat.not_lt_zero _)
 | n + 1, i, hi, hlt, hp, tok, nt => by
  have hnd := nd_at hlt
  by_cases h0 : 0 ≤ (t.nd i).par
  ·have hpi := hp i (Nat.le_refl _)
   obtain ⟨tok1, nt1, o1, hk, hc⟩ := attrs_c t ht hM n (t.nd i).par.toNat (by omega) (by omega) (fun j hj => hp j (by omega)) tok nt
   have hL := atsL_up h0 (by omega)
   have hl1 := atsL_len hM (i + 1) (t.nd i).par.toNat (by omega)
   have hl2 := hM i
   have hb : ((t.nd i).par.toNat + 1) * 1000 ≤ 1000 * 1000 := Nat.mul_le_mul_right _ (by have := ht.n; omega)
   refine ⟨_, _, .tok nt1, fun h => (hk h).app, ?_⟩
   rw [hL]
   rw [Int.toNat_of_nonneg h0] at hc
   generalize atsL t (t.nd i).par.toNat = Q at *
   rw [hnd] at h0 hc hl2 ⊢
   intro box nb
   have hc := hc
   refine sB Tryz.func223 Tryz.ntmps223 ?_
   intro hbox htok
   simp only at hbox htok
   apply AL.start
   have hkk := hk htok
   try (simp [hlt])
   repeat (refine sR ?_; simp [hlt])
   refine sC ?_
   simp [h0]
   try (simp)
   repeat (refine sR ?_; simp)
   refine Stop.of_d (hc) ?_
   simp
   try (simp [hlt])
   repeat (refine sR ?_; simp [hlt])
   refine ⟨⟨by omega, hkk.live⟩, ?_⟩
   refine sN ?_
   refine AL.ret ?_
   try simp only [AU]
   refine ⟨by simp, Fin.own (by simp [resAs, resA]; rfl) hbox rfl hkk.app.le ?_⟩
   simp [packA]
  ·have hL := atsL_top h0
   have hl2 := hM i
   refine ⟨_, _, .tok nt, fun h => (TK.start h).full.app, ?_⟩
   rw [hL]
   rw [hnd] at h0 hl2 ⊢
   intro box nb
   refine sB Tryz.func223 Tryz.ntmps223 ?_
   intro hbox htok
   simp only at hbox htok
   apply AL.start
   have hkk := (TK.start htok).full
   try (simp [hlt])
   repeat (refine sR ?_; simp [hlt])
   refine sC ?_
   simp [h0]
   try (simp [hlt])
   repeat (refine sR ?_; simp [hlt])
   refine ⟨by omega, ?_⟩
   refine sN ?_
   refine AL.ret ?_
   try simp only [AU]
   refine ⟨by simp, Fin.own (by simp [resAs, resA]; rfl) hbox rfl (by simp) ?_⟩
   simp [packA]
end Go.AM
namespace Go.AM
open Go Go.Proofs
def bndB (lo hi : Int) : Bool := decide (0 ≤ lo ∧ lo ≤ 40) && (hi == -1 || decide (lo ≤ hi ∧ hi ≤ 40))
theorem bounded_c (lo hi : Int) (tok : Tks) (nt : Nat) : DCall Tryz.prog 228 [I lo, I hi] tok nt (B (bndB lo hi)) tok nt := by
 intro box nb
 by_cases h1 : 0 ≤ lo
 ·by_cases h2 : lo ≤ 40
  ·cases h3 : (hi == -1)
   ·by_cases h4 : lo ≤ hi
    ·by_cases h5 : hi ≤ 40
     ·refine sB Tryz.func228 Tryz.ntmps228 ?_
      intro hbox htok
      simp only at hbox htok
      apply AL.start
      try (simp [h1, h2, h3, h4, h5])
      repeat (refine sR ?_; simp [h1, h2, h3, h4, h5])
      refine sT ?_
      try simp only [AU]
      refine ⟨by simp, sF hbox htok (fun _ h => h) (Nat.le_refl _) ?_⟩
      simp [packA, bndB, h1, h2, h3, h4, h5]
     ·refine sB Tryz.func228 Tryz.ntmps228 ?_
      intro hbox htok
      simp only at hbox htok
      apply AL.start
      try (simp [h1, h2, h3, h4, h5])
      repeat (refine sR ?_; simp [h1, h2, h3, h4, h5])
      refine sT ?_
      try simp only [AU]
      refine ⟨by simp, sF hbox htok (fun _ h => h) (Nat.le_refl _) ?_⟩
      simp [packA, bndB, h1, h2, h3, h4, h5]
    ·refine sB Tryz.func228 Tryz.ntmps228 ?_
     intro hbox htok
     simp only at hbox htok
     apply AL.start
     try (simp [h1, h2, h3, h4])
     repeat (refine sR ?_; simp [h1, h2, h3, h4])
     refine sT ?_
     try simp only [AU]
     refine ⟨by simp, sF hbox htok (fun _ h => h) (Nat.le_refl _) ?_⟩
     simp [packA, bndB, h1, h2, h3, h4]
   ·refine sB Tryz.func228 Tryz.ntmps228 ?_
    intro hbox htok
    simp only at hbox htok
    apply AL.start
    try (simp [h1, h2, h3])
    repeat (refine sR ?_; simp [h1, h2, h3])
    refine sT ?_
    try simp only [AU]
    refine ⟨by simp, sF hbox htok (fun _ h => h) (Nat.le_refl _) ?_⟩
    simp [packA, bndB, h1, h2, h3]
  ·refine sB Tryz.func228 Tryz.ntmps228 ?_
   intro hbox htok
   simp only at hbox htok
   apply AL.start
   try (simp [h1, h2])
   repeat (refine sR ?_; simp [h1, h2])
   refine sT ?_
   try simp only [AU]
   refine ⟨by simp, sF hbox htok (fun _ h => h) (Nat.le_refl _) ?_⟩
   simp [packA, bndB, h1, h2]
 ·refine sB Tryz.func228 Tryz.ntmps228 ?_
  intro hbox htok
  simp only at hbox htok
  apply AL.start
  try (simp [h1])
  repeat (refine sR ?_; simp [h1])
  refine sT ?_
  try simp only [AU]
  refine ⟨by simp, sF hbox htok (fun _ h => h) (Nat.le_refl _) ?_⟩
  simp [packA, bndB, h1]
abbrev NT.row (n : NT) : List AV := [Sb n.name, I n.par, B n.abs, .d (atts n.own)]
abbrev ET.row (e : ET) : List AV := [Sb e.name, I e.fr, I e.to, I e.ol, I e.oh, I e.il, I e.ih]
theorem node1_c (x y : NT) (box : Bxs) (nb k : Nat) (tok : Tks) (nt : Nat) (h1 : box k = some [x.row]) :
  ACalls Tryz.prog 222 [y.av, .ptr k 0 0] ⟨box, nb, tok, nt⟩ fun v m => v = B (decide (y.name = x.name)) ∧ m = ⟨box, nb, tok, nt⟩ := by
 refine sB Tryz.func222 Tryz.ntmps222 ?_
 intro hbox htok
 simp only at hbox htok
 apply AL.start
 have k1n := key_lt hbox h1
 rw [← seq_dec]
 try (simp [lb_out k1n, h1])
 repeat (refine sR ?_; simp [lb_out k1n, h1])
 refine sT ?_
 try simp only [AU]
 refine ⟨by simp, sF hbox htok (fun _ h => h) (Nat.le_refl _) ?_⟩
 simp [packA]
theorem edge2_c (x y : ET) (box : Bxs) (nb k : Nat) (tok : Tks) (nt : Nat) (h1 : box k = some [x.row]) :
  ACalls Tryz.prog 227 [y.av, .ptr k 0 0] ⟨box, nb, tok, nt⟩ fun v m => v = B (decide (y.name = x.name)) ∧ m = ⟨box, nb, tok, nt⟩ := by
 refine sB Tryz.func227 Tryz.ntmps227 ?_
 intro hbox htok
 simp only at hbox htok
 apply AL.start
 have k1n := key_lt hbox h1
 rw [← seq_dec]
 try (simp [lb_out k1n, h1])
 repeat (refine sR ?_; simp [lb_out k1n, h1])
 refine sT ?_
 try simp only [AU]
 refine ⟨by simp, sF hbox htok (fun _ h => h) (Nat.le_refl _) ?_⟩
 simp [packA]
def insB (t : Ty) (n : Int) : Bool := decide (0 ≤ n ∧ n < t.nodes.length)
theorem edge1_c (t : Ty) (n : Int) (box : Bxs) (nb k : Nat) (tok : Tks) (nt : Nat) (h1 : box k = some [[.d (nts t.nodes), .d (ets t.edges)]]) :
  ACalls Tryz.prog 225 [I n, .ptr k 0 0] ⟨box, nb, tok, nt⟩ fun v m => v = B (insB t n) ∧ m = ⟨box, nb, tok, nt⟩ := by
 by_cases h0 : 0 ≤ n
 ·refine sB Tryz.func225 Tryz.ntmps225 ?_
  intro hbox htok
  simp only at hbox htok
  apply AL.start
  have k1n := key_lt hbox h1
  try (simp [lb_out k1n, h1, h0])
  repeat (refine sR ?_; simp [lb_out k1n, h1, h0])
  refine sT ?_
  try simp only [AU]
  refine ⟨by simp, sF hbox htok (fun _ h => h) (Nat.le_refl _) ?_⟩
  simp [packA, insB, h0]
 ·refine sB Tryz.func225 Tryz.ntmps225 ?_
  intro hbox htok
  simp only at hbox htok
  apply AL.start
  have k1n := key_lt hbox h1
  try (simp [lb_out k1n, h1, h0])
  repeat (refine sR ?_; simp [lb_out k1n, h1, h0])
  refine sT ?_
  try simp only [AU]
  refine ⟨by simp, sF hbox htok (fun _ h => h) (Nat.le_refl _) ?_⟩
  simp [packA, insB, h0]
end Go.AM
namespace Go.AM
open Go Go.Proofs
def atAt (L : List At) (k : Nat) : Int := attE (L.getD k ⟨eB, 0, 0, []⟩) (L.take k)
def ownAt (L : List At) (M k : Nat) : Int := if k + M < L.length then 0 else atAt L k
def ownE (L : List At) (M : Nat) : Int := firstE (ownAt L M) L.length
theorem ownAt_zero (L : List At) (M : Nat) : ∀ k, k + M ≤ L.length → firstE (ownAt L M) k = 0
 | 0, _ => rfl
 | k + 1, h => by
  simp only [firstE, ownAt_zero L M k (by omega), ↓reduceIte, ownAt]
  rw [if_pos (by omega)]
theorem atsL_own {t : Ty} {i : Nat} : (t.nd i).own.length ≤ (atsL t i).length := by
 rw [atsL]
 split
 ·rw [List.length_append]; omega
 ·exact Nat.le_refl _
theorem atsL_fit {t : Ty} (ht : t.Fit) : ∀ n i, i < n → ∀ x ∈ atsL t i, x.Fit
 | 0, i, hi => absurd hi (Nat.not_lt_zero _)
 | n + 1, i, hi => by
  have hown : ∀ x ∈ (t.nd i).own, x.Fit := by
   by_cases h : i < t.nodes.length
   ·rw [nd_at h]; exact (ht.a _ (List.getElem_mem h)).2
   ·intro x hx
    simp only [Ty.nd, List.getD_eq_getElem?_getD, List.getElem?_eq_none (Nat.le_of_not_lt h), Option.getD_none] at hx
    cases hx
  rw [atsL]
  split
  ·rename_i h
   intro x hx
   rcases List.mem_append.1 hx with hx | hx
   ·exact atsL_fit ht n _ (by omega) x hx
   ·exact hown x hx
  ·exact hown
theorem at_getD {L : List At} {k : Nat} (h : k < L.length) : atAt L k = attE L[k] (L.take k) := by simp [atAt, h]
theorem atts_take (L : List At) (k : Nat) : atts (L.take k) = .sl 4 (List.take k (L.map At.cells)) := by rw [atts, List.map_take]
theorem atts_at {L : List At} {k : Nat} (h : k < L.length) : (L.map At.cells)[k]? = some L[k].cells := by simp [h]
def nodE (t : Ty) (i : Nat) : Int :=
 if nameB (t.nd i).name = false then 2 else if anyB (fun y => decide (y.name = (t.nd i).name)) (t.nodes.take i) = true then 5
 else if (t.nd i).par < -1 ∨ (i : Int) ≤ (t.nd i).par then 6 else if 4 < (t.nd i).own.length then 3
 else if 8 < (atsL t i).length then 3 else ownE (atsL t i) (t.nd i).own.length
def stNo (L : List At) (nb : Nat) (box : Bxs) (tok : Tks) (nt : Nat) (k : Nat) : AState := ⟨tl [(7, I k), (6, .d (atts L))], lb nb box [], tok, nt⟩
theorem node_c (t : Ty) (ht : t.Fit) (hM : ∀ i, (t.nd i).own.length ≤ 1000) (i : Nat) (hi : i < t.nodes.length) (hp : ∀ j, j < i → (t.nd j).par < j) (tok : Tks) (nt : Nat) : DCall Tryz.prog 161 [t.av, I i] tok nt (I (nodE t i)) tok nt := by
 intro box nb
 have hnd := nd_at hi
 have hmem := List.getElem_mem hi
 have h1 := isName_c (t.nd i).name (by rw [hnd]; exact Nat.le_trans (ht.nn _ hmem) (by decide))
 obtain ⟨N, hN⟩ : ∃ N, nodE t i = N := ⟨_, rfl⟩
 rw [hN]
 unfold nodE at hN
 rw [hnd] at h1 hN
 cases e1 : nameB t.nodes[i].name
 ·rw [e1] at h1 hN
  rw [if_pos rfl] at hN
  refine sB Tryz.func161 Tryz.ntmps161 ?_
  intro hbox htok
  simp only at hbox htok
  apply AL.start
  try (simp [hi])
  repeat (refine sR ?_; simp [hi])
  refine Stop.of_d (h1 _ _) ?_
  simp
  try (simp)
  repeat (refine sR ?_; simp)
  refine sC ?_
  simp
  try (simp)
  repeat (refine sR ?_; simp)
  refine sT ?_
  try simp only [AU]
  refine ⟨by simp, sF hbox htok (fun _ h => h) (Nat.le_refl _) ?_⟩
  simp [packA, ← hN]
 ·rw [e1] at h1 hN
  rw [if_neg (by simp)] at hN
  obtain ⟨p, hpp⟩ : ∃ p : NT → Bool, (fun y => decide (y.name = t.nodes[i].name)) = p := ⟨_, rfl⟩
  have h2 := fun y box nb k (hbk : box k = some [(t.nodes[i]'hi).row]) => node1_c (t.nodes[i]'hi) y box nb k tok nt hbk
  have hpy : ∀ y : NT, decide (y.name = t.nodes[i].name) = p y := fun y => by rw [← hpp]
  simp only [hpy] at h2
  rw [hpp] at hN
  refine sB Tryz.func161 Tryz.ntmps161 ?_
  intro hbox htok
  simp only at hbox htok
  apply AL.start
  try (simp [hi])
  repeat (refine sR ?_; simp [hi])
  refine Stop.of_d (h1 _ _) ?_
  simp
  try (simp)
  repeat (refine sR ?_; simp)
  refine sC ?_
  simp
  try (simp [hi])
  repeat (refine sR ?_; simp [hi])
  refine ⟨by omega, ?_⟩
  have hcf := fun (b : Bxs) nb' h3 h4 => containsFuncN_c (t.nodes.take i) 222 [.ptr (nb + 5) 0 0] p (by simp; have := ht.n; omega) b nb' tok nt h3 h4
  rw [show nts (t.nodes.take i) = .sl 4 (List.take i (t.nodes.map NT.cells)) by rw [nts, List.map_take]] at hcf
  refine Stop.of_b (hcf _ _ (fun c hc => by rw [List.mem_singleton.1 hc]; simp [lb_at]) (fun y hy box' nb' he => h2 y box' nb' _ (he _ _ (by simp [lb_at])))) ?_
  simp
  cases e2 : anyB p (t.nodes.take i)
  ·rw [e2, if_neg (by simp)] at hN
   refine sC ?_
   simp
   by_cases e3 : t.nodes[i].par < -1
   ·rw [if_pos (.inl e3)] at hN
    try (simp [e3])
    repeat (refine sR ?_; simp [e3])
    refine sC ?_
    simp
    try (simp)
    repeat (refine sR ?_; simp)
    refine sT ?_
    try simp only [AU]
    refine ⟨by simp, sF hbox htok (fun _ h => h) (Nat.le_refl _) ?_⟩
    simp [packA, ← hN]
   ·by_cases e4 : (i : Int) ≤ t.nodes[i].par
    ·rw [if_pos (.inr e4)] at hN
     try (simp [e3, e4])
     repeat (refine sR ?_; simp [e3, e4])
     refine sC ?_
     simp
     try (simp)
     repeat (refine sR ?_; simp)
     refine sT ?_
     try simp only [AU]
     refine ⟨by simp, sF hbox htok (fun _ h => h) (Nat.le_refl _) ?_⟩
     simp [packA, ← hN]
    ·rw [if_neg (by omega)] at hN
     try (simp [e3, e4])
     repeat (refine sR ?_; simp [e3, e4])
     refine sC ?_
     simp
     try (simp)
     repeat (refine sR ?_; simp)
     by_cases e5 : 4 < t.nodes[i].own.length
     ·have e5' : (4 : Int) < t.nodes[i].own.length := by omega
      rw [if_pos e5] at hN
      refine sC ?_
      simp [e5, e5']
      try (simp)
      repeat (refine sR ?_; simp)
      refine sT ?_
      try simp only [AU]
      refine ⟨by simp, sF hbox htok (fun _ h => h) (Nat.le_refl _) ?_⟩
      simp [packA, ← hN]
     ·have e5' : ¬ (4 : Int) < t.nodes[i].own.length := by omega
      rw [if_neg e5] at hN
      obtain ⟨tok1, nt1, o1, hk, hc⟩ := attrs_c t ht hM (i + 1) i (Nat.lt_succ_self _) hi (fun j hj => by
       by_cases e : j = i
       ·subst e; rw [hnd]; omega
       ·exact hp j (by omega)) tok nt
      have hal := atsL_len hM (i + 1) i (Nat.lt_succ_self _)
      have haf := atsL_fit ht (i + 1) i (Nat.lt_succ_self _)
      have hml := atsL_own (t := t) (i := i)
      rw [hnd] at hml
      have htn := ht.n
      have hal2 : (atsL t i).length ≤ 1000000 := Nat.le_trans hal (by have : (i + 1) * 1000 ≤ 1000 * 1000 := Nat.mul_le_mul_right _ (by omega); omega)
      clear hal
      generalize atsL t i = L at *
      refine sC ?_
      simp [e5, e5']
      try (simp)
      repeat (refine sR ?_; simp)
      refine Stop.of_d (hc) ?_
      simp
      have hkk := hk htok
      try (simp)
      repeat (refine sR ?_; simp)
      by_cases e6 : 8 < L.length
      ·have e6' : (8 : Int) < L.length := by omega
       rw [if_pos e6] at hN
       refine sC ?_
       simp [e6, e6']
       try (simp)
       repeat (refine sR ?_; simp)
       refine sT ?_
       try simp only [AU]
       refine ⟨by simp, sF hbox htok hkk.old hkk.le ?_⟩
       simp [packA, ← hN]
      ·have e6' : ¬ (8 : Int) < L.length := by omega
       rw [if_neg e6] at hN
       have hw0 : IntKind.i64.wrap ((L.length : Int) - (t.nodes[i].own.length : Nat)) = ((L.length - t.nodes[i].own.length : Nat) : Int) := by rw [wrap_in (by omega) (by omega)]; omega
       have hz := ownAt_zero L t.nodes[i].own.length (L.length - t.nodes[i].own.length) (by omega)
       unfold ownE at hN
       obtain ⟨f, hf⟩ : ∃ f, ownAt L t.nodes[i].own.length = f := ⟨_, rfl⟩
       have hfk : ∀ k, (hk : k < L.length) → L.length - t.nodes[i].own.length ≤ k → f k = attE L[k] (L.take k) := fun k hk hge => by
        rw [← hf, ownAt, if_neg (by omega), at_getD hk]
       rw [hf] at hN hz
       refine sC ?_
       simp [e6, e6']
       try (simp [hi, lb_at, hw0])
       repeat (refine sR ?_; simp [hi, lb_at, hw0])
       have hal3 : L.length - t.nodes[i].own.length ≤ L.length := Nat.sub_le _ _
       generalize L.length - t.nodes[i].own.length = a at *
       refine sN ?_
       refine AL.loopT (stNo L nb box tok1 nt1) (fun k => a ≤ k ∧ k ≤ L.length ∧ firstE f k = 0) (fun k => L.length - k) a ⟨Nat.le_refl _, by omega, hz⟩ (Weaks.mk (by have := hkk.le; omega) rfl (by simp [ToL, lk, To.data]) trivial) ?_
       rintro k S' ⟨hak, hkl, hok⟩ hS
       simp only [stNo] at hS
       subst hS
       have hw := sW (i := k) (by omega)
       try (simp)
       repeat (refine sR ?_; simp)
       refine sC ?_
       simp
       refine ⟨fun hlt => ?_, fun hge => ?_⟩
       ·have hA := hfk k hlt hak
        have hc2 := attribute_c L[k] (L.take k) (haf _ (List.getElem_mem hlt)) (by simp; omega)
        rw [atts_take, ← hA] at hc2
        have hR : f k ≠ 0 → firstE f L.length = f k := fun h0 => firstE_stop hok h0 L.length hlt
        have hnx : f k = 0 → firstE f (k + 1) = 0 := fun h0 => by simp only [firstE, hok, h0, ↓reduceIte]
        generalize f k = E at *
        try (simp [hlt, atts_at hlt])
        repeat (refine sR ?_; simp [hlt, atts_at hlt])
        try refine ⟨by omega, ?_⟩
        refine Stop.of_d (hc2 _ _) ?_
        simp
        try (simp)
        repeat (refine sR ?_; simp)
        by_cases e7 : E = 0
        ·refine sC ?_
         simp [e7]
         try (simp [hw])
         repeat (refine sR ?_; simp [hw])
         refine sE ?_
         exact ⟨k + 1, ⟨by omega, hlt, hnx e7⟩, by omega, Weaks.mk (by have := hkk.le; omega) rfl (by simp [ToL, lk]) trivial⟩
        ·have b7 : (E != 0) = true := by simp [e7]
         refine sC ?_
         simp [e7, b7]
         try (simp)
         repeat (refine sR ?_; simp)
         refine sT ?_
         try simp only [AU]
         refine ⟨by simp, sF hbox htok hkk.old hkk.le ?_⟩
         simp [packA, ← hN, hR e7]
       ·refine sX ?_
        simp only [AU, ↓reduceIte]
        try (simp)
        repeat (refine sR ?_; simp)
        have : k = L.length := by omega
        subst this
        refine sT ?_
        try simp only [AU]
        refine ⟨by simp, sF hbox htok hkk.old hkk.le ?_⟩
        simp [packA, ← hN, hok]
  ·rw [e2, if_pos rfl] at hN
   refine sC ?_
   simp
   try (simp)
   repeat (refine sR ?_; simp)
   refine sT ?_
   try simp only [AU]
   refine ⟨by simp, sF hbox htok (fun _ h => h) (Nat.le_refl _) ?_⟩
   simp [packA, ← hN]
end Go.AM
namespace Go.AM
open Go Go.Proofs
end Go.AM
namespace Go.AM
open Go Go.Proofs
instance : Inhabited ET := ⟨⟨eB, 0, 0, 0, 0, 0, 0⟩⟩
def Ty.ed (t : Ty) (i : Nat) : ET := t.edges.getD i default
theorem ed_at {t : Ty} {i : Nat} (h : i < t.edges.length) : t.ed i = t.edges[i] := by simp [Ty.ed, h]
def anyE (l : List ET) (s : ByteArray) : Bool := anyB (fun y => decide (y.name = s)) l
def edR (t : Ty) (x : ET) : Int := if insB t x.fr = false then 6 else if insB t x.to = false then 6 else if bndB x.ol x.oh = false then 6 else if bndB x.il x.ih = false then 6 else 0
def edgE (t : Ty) (i : Nat) : Int :=
 if nameB (t.ed i).name = false then 2 else if anyE (t.edges.take i) (t.ed i).name = true then 5 else edR t (t.ed i)
set_option maxRecDepth 100000 in
theorem edge_c (t : Ty) (ht : t.Fit) (i : Nat) (hi : i < t.edges.length) (tok : Tks) (nt : Nat) : DCall Tryz.prog 162 [t.av, I i] tok nt (I (edgE t i)) tok nt := by
 intro box nb
 have hnd := ed_at hi
 have hmem := List.getElem_mem hi
 have hte := ht.e
 have h1 := isName_c (t.ed i).name (by rw [hnd]; exact Nat.le_trans (ht.en _ hmem) (by decide))
 obtain ⟨N, hN⟩ : ∃ N, edgE t i = N := ⟨_, rfl⟩
 rw [hN]
 unfold edgE at hN
 rw [hnd] at h1 hN
 cases e1 : nameB t.edges[i].name
 ·rw [e1] at h1 hN
  rw [if_pos rfl] at hN
  refine sB Tryz.func162 Tryz.ntmps162 ?_
  intro hbox htok
  simp only at hbox htok
  apply AL.start
  try (simp [hi])
  repeat (refine sR ?_; simp [hi])
  refine Stop.of_d (h1 _ _) ?_
  simp
  try (simp)
  repeat (refine sR ?_; simp)
  refine sC ?_
  simp
  try (simp)
  repeat (refine sR ?_; simp)
  refine sT ?_
  try simp only [AU]
  refine ⟨by simp, sF hbox htok (fun _ h => h) (Nat.le_refl _) ?_⟩
  simp [packA, ← hN]
 ·rw [e1] at h1 hN
  rw [if_neg (by simp)] at hN
  unfold anyE at hN
  obtain ⟨p, hpp⟩ : ∃ p : ET → Bool, (fun y => decide (y.name = t.edges[i].name)) = p := ⟨_, rfl⟩
  have h2 := fun y box nb k (hbk : box k = some [(t.edges[i]'hi).row]) => edge2_c (t.edges[i]'hi) y box nb k tok nt hbk
  have hpy : ∀ y : ET, decide (y.name = t.edges[i].name) = p y := fun y => by rw [← hpp]
  simp only [hpy] at h2
  rw [hpp] at hN
  refine sB Tryz.func162 Tryz.ntmps162 ?_
  intro hbox htok
  simp only at hbox htok
  apply AL.start
  try (simp [hi])
  repeat (refine sR ?_; simp [hi])
  refine Stop.of_d (h1 _ _) ?_
  simp
  try (simp)
  repeat (refine sR ?_; simp)
  refine sC ?_
  simp
  try (simp [hi])
  repeat (refine sR ?_; simp [hi])
  try refine ⟨by omega, ?_⟩
  have hcf := fun (b : Bxs) nb' h3 h4 => containsFuncE2_c (t.edges.take i) 227 [.ptr (nb + 5) 0 0] p (by simp; have := ht.e; omega) b nb' tok nt h3 h4
  rw [show ets (t.edges.take i) = .sl 7 (List.take i (t.edges.map ET.cells)) by rw [ets, List.map_take]] at hcf
  refine Stop.of_b (hcf _ _ (fun c hc => by rw [List.mem_singleton.1 hc]; simp [lb_at]) (fun y hy box' nb' he => h2 y box' nb' _ (he _ _ (by simp [lb_at])))) ?_
  simp
  cases e2 : anyB p (t.edges.take i)
  ·rw [e2, if_neg (by simp)] at hN
   unfold edR at hN
   have b1 := bounded_c t.edges[i].ol t.edges[i].oh
   have b2 := bounded_c t.edges[i].il t.edges[i].ih
   refine sC ?_
   simp
   try (simp)
   repeat (refine sR ?_; simp)
   refine Stop.of_b (edge1_c t t.edges[i].fr _ _ (nb + 2) _ _ (by simp [lb_at])) ?_
   simp
   cases g1 : insB t t.edges[i].fr
   ·rw [g1, if_pos rfl] at hN
    try (simp)
    repeat (refine sR ?_; simp)
    refine sC ?_
    simp
    try (simp)
    repeat (refine sR ?_; simp)
    refine sC ?_
    simp
    try (simp)
    repeat (refine sR ?_; simp)
    refine sT ?_
    try simp only [AU]
    refine ⟨by simp, sF hbox htok (fun _ h => h) (Nat.le_refl _) ?_⟩
    simp [packA, ← hN]
   ·rw [g1, if_neg (by simp)] at hN
    try (simp)
    repeat (refine sR ?_; simp)
    refine Stop.of_b (edge1_c t t.edges[i].to _ _ (nb + 2) _ _ (by simp [lb_at])) ?_
    simp
    cases g2 : insB t t.edges[i].to
    ·rw [g2, if_pos rfl] at hN
     try (simp)
     repeat (refine sR ?_; simp)
     refine sC ?_
     simp
     try (simp)
     repeat (refine sR ?_; simp)
     refine sC ?_
     simp
     try (simp)
     repeat (refine sR ?_; simp)
     refine sT ?_
     try simp only [AU]
     refine ⟨by simp, sF hbox htok (fun _ h => h) (Nat.le_refl _) ?_⟩
     simp [packA, ← hN]
    ·rw [g2, if_neg (by simp)] at hN
     try (simp)
     repeat (refine sR ?_; simp)
     refine sC ?_
     simp
     try (simp)
     repeat (refine sR ?_; simp)
     refine Stop.of_d (b1 _ _) ?_
     simp
     cases g3 : bndB t.edges[i].ol t.edges[i].oh
     ·rw [g3, if_pos rfl] at hN
      try (simp)
      repeat (refine sR ?_; simp)
      refine sC ?_
      simp
      try (simp)
      repeat (refine sR ?_; simp)
      refine sT ?_
      try simp only [AU]
      refine ⟨by simp, sF hbox htok (fun _ h => h) (Nat.le_refl _) ?_⟩
      simp [packA, ← hN]
     ·rw [g3, if_neg (by simp)] at hN
      try (simp)
      repeat (refine sR ?_; simp)
      refine Stop.of_d (b2 _ _) ?_
      simp
      cases g4 : bndB t.edges[i].il t.edges[i].ih
      ·rw [g4, if_pos rfl] at hN
       try (simp)
       repeat (refine sR ?_; simp)
       refine sC ?_
       simp
       try (simp)
       repeat (refine sR ?_; simp)
       refine sT ?_
       try simp only [AU]
       refine ⟨by simp, sF hbox htok (fun _ h => h) (Nat.le_refl _) ?_⟩
       simp [packA, ← hN]
      ·rw [g4, if_neg (by simp)] at hN
       try (simp)
       repeat (refine sR ?_; simp)
       refine sC ?_
       simp
       try (simp)
       repeat (refine sR ?_; simp)
       refine sT ?_
       try simp only [AU]
       refine ⟨by simp, sF hbox htok (fun _ h => h) (Nat.le_refl _) ?_⟩
       simp [packA, ← hN]
  ·rw [e2, if_pos rfl] at hN
   refine sC ?_
   simp
   try (simp)
   repeat (refine sR ?_; simp)
   refine sT ?_
   try simp only [AU]
   refine ⟨by simp, sF hbox htok (fun _ h => h) (Nat.le_refl _) ?_⟩
   simp [packA, ← hN]
end Go.AM
namespace Go.AM
open Go Go.Proofs
def firstN (f : Nat → Int) (g : Nat → ByteArray) : Nat → ByteArray
 | 0 => eB
 | n + 1 => if firstE f n = 0 then (if f n = 0 then eB else g n) else firstN f g n
theorem firstN_stop {f : Nat → Int} {g : Nat → ByteArray} {i : Nat} (h0 : firstE f i = 0) (h : f i ≠ 0) : ∀ n, i < n → firstN f g n = g i
 | 0, hi => absurd hi (Nat.not_lt_zero _)
 | n + 1, hi => by
  simp only [firstN]
  by_cases e : i = n
  ·subst e
   rw [if_pos h0, if_neg h]
  ·have := firstE_stop h0 h n (by omega)
   rw [if_neg (by rw [this]; exact h), firstN_stop h0 h n (by omega)]
theorem firstN_none {f : Nat → Int} {g : Nat → ByteArray} : ∀ n, firstE f n = 0 → firstN f g n = eB
 | 0, _ => rfl
 | n + 1, h => by
  simp only [firstE] at h
  split at h
  ·rename_i h1
   rw [firstN, if_pos h1, if_pos h]
  ·rename_i h1
   exact absurd h h1
def tyE (t : Ty) : Int :=
 if t.nodes.length = 0 then 7 else if 12 < t.nodes.length then 3 else if 20 < t.edges.length then 3
 else if firstE (nodE t) t.nodes.length ≠ 0 then firstE (nodE t) t.nodes.length else firstE (edgE t) t.edges.length
def tyN (t : Ty) : ByteArray :=
 if t.nodes.length = 0 then eB else if 12 < t.nodes.length then eB else if 20 < t.edges.length then eB
 else if firstE (nodE t) t.nodes.length ≠ 0 then firstN (nodE t) (fun i => (t.nd i).name) t.nodes.length else firstN (edgE t) (fun i => (t.ed i).name) t.edges.length
theorem nodE_par {t : Ty} {i : Nat} (h : nodE t i = 0) : (t.nd i).par < i := by
 unfold nodE at h
 split at h
 ·cases h
 ·split at h
  ·cases h
  ·split at h
   ·cases h
   ·omega
theorem firstE_allZ {f : Nat → Int} : ∀ n, firstE f n = 0 → ∀ i, i < n → f i = 0
 | 0, _, i, hi => absurd hi (Nat.not_lt_zero _)
 | n + 1, h, i, hi => by
  simp only [firstE] at h
  split at h
  ·rename_i h1
   by_cases e : i = n
   ·subst e; exact h
   ·exact firstE_allZ n h1 i (by omega)
  ·rename_i h1
   exact absurd h h1
end Go.AM
namespace Go.AM
open Go Go.Proofs
def stVn (t : Ty) (nb : Nat) (box : Bxs) (tok : Tks) (nt : Nat) (i : Nat) : AState := ⟨tl [(29, I i), (28, I t.nodes.length), (27, .d (nts t.nodes)), (1, .ptr (nb + 1) 0 0)], lb nb box [(1, [[.d (nts t.nodes), .d (ets t.edges)]])], tok, nt⟩
def stVe (t : Ty) (nb : Nat) (box : Bxs) (tok : Tks) (nt : Nat) (i : Nat) : AState := ⟨tl [(46, I i), (45, I t.edges.length), (44, .d (ets t.edges)), (1, .ptr (nb + 1) 0 0)], lb nb box [(1, [[.d (nts t.nodes), .d (ets t.edges)]])], tok, nt⟩
theorem valid_c4 (t : Ty) (ht : t.Fit) (hM : ∀ i, (t.nd i).own.length ≤ 1000) (tok : Tks) (nt : Nat) : DCall Tryz.prog 88 [t.av] tok nt (.tup [Sb (tyN t), I (tyE t)]) tok nt := by
 intro box nb
 have htn := ht.n
 have hte := ht.e
 obtain ⟨N, hN⟩ : ∃ N, tyE t = N := ⟨_, rfl⟩
 obtain ⟨Z, hZ⟩ : ∃ Z, tyN t = Z := ⟨_, rfl⟩
 rw [hN, hZ]
 unfold tyE at hN
 unfold tyN at hZ
 by_cases e1 : t.nodes.length = 0
 ·have e1' : t.nodes = [] := List.length_eq_zero_iff.1 e1
  rw [if_pos e1] at hN hZ
  refine sB Tryz.func88 Tryz.ntmps88 ?_
  intro hbox htok
  simp only at hbox htok
  apply AL.start
  try (simp [e1'])
  repeat (refine sR ?_; simp [e1'])
  refine sC ?_
  simp [e1']
  try (simp)
  repeat (refine sR ?_; simp)
  refine sT ?_
  try simp only [AU]
  refine ⟨by simp, sF hbox htok (fun _ h => h) (Nat.le_refl _) ?_⟩
  simp [packA, ← hN, ← hZ]
 ·have e1' : ¬ t.nodes = [] := fun h => e1 (by rw [h]; rfl)
  rw [if_neg e1] at hN hZ
  by_cases e2 : 12 < t.nodes.length
  ·have e2' : (12 : Int) < t.nodes.length := by omega
   rw [if_pos e2] at hN hZ
   refine sB Tryz.func88 Tryz.ntmps88 ?_
   intro hbox htok
   simp only at hbox htok
   apply AL.start
   try (simp [e1', e2, e2'])
   repeat (refine sR ?_; simp [e1', e2, e2'])
   refine sC ?_
   simp [e1', e2, e2']
   try (simp [e2, e2'])
   repeat (refine sR ?_; simp [e2, e2'])
   refine sC ?_
   simp [e2, e2']
   try (simp)
   repeat (refine sR ?_; simp)
   refine sT ?_
   try simp only [AU]
   refine ⟨by simp, sF hbox htok (fun _ h => h) (Nat.le_refl _) ?_⟩
   simp [packA, ← hN, ← hZ]
  ·have e2' : ¬ (12 : Int) < t.nodes.length := by omega
   rw [if_neg e2] at hN hZ
   by_cases e3 : 20 < t.edges.length
   ·have e3' : (20 : Int) < t.edges.length := by omega
    rw [if_pos e3] at hN hZ
    refine sB Tryz.func88 Tryz.ntmps88 ?_
    intro hbox htok
    simp only at hbox htok
    apply AL.start
    try (simp [e1', e2, e2', e3, e3'])
    repeat (refine sR ?_; simp [e1', e2, e2', e3, e3'])
    refine sC ?_
    simp [e1', e2, e2']
    try (simp [e2, e2', e3, e3'])
    repeat (refine sR ?_; simp [e2, e2', e3, e3'])
    refine sC ?_
    simp [e2, e2', e3, e3']
    try (simp)
    repeat (refine sR ?_; simp)
    refine sT ?_
    try simp only [AU]
    refine ⟨by simp, sF hbox htok (fun _ h => h) (Nat.le_refl _) ?_⟩
    simp [packA, ← hN, ← hZ]
   ·have e3' : ¬ (20 : Int) < t.edges.length := by omega
    rw [if_neg e3] at hN hZ
    refine sB Tryz.func88 Tryz.ntmps88 ?_
    intro hbox htok
    simp only at hbox htok
    apply AL.start
    try (simp [e1', e2, e2', e3, e3'])
    repeat (refine sR ?_; simp [e1', e2, e2', e3, e3'])
    refine sC ?_
    simp [e1', e2, e2']
    try (simp [e2, e2', e3, e3'])
    repeat (refine sR ?_; simp [e2, e2', e3, e3'])
    refine sC ?_
    simp [e2, e2', e3, e3']
    try (simp)
    repeat (refine sR ?_; simp)
    refine sN ?_
    refine AL.loopT (stVn t nb box tok nt) (fun i => i ≤ t.nodes.length ∧ firstE (nodE t) i = 0) (fun i => t.nodes.length - i) 0 ⟨Nat.zero_le _, rfl⟩ (Weaks.mk (Nat.le_refl _) rfl (by simp [ToL, lk, lb_at]) (by simp [BoxL, lk])) ?_
    rintro i S' ⟨hi, hok⟩ hS
    simp only [stVn] at hS
    subst hS
    have hw := sW (i := i) (by omega)
    try (simp)
    repeat (refine sR ?_; simp)
    refine sC ?_
    simp
    refine ⟨fun hlt => ?_, fun hge => ?_⟩
    ·have hc := node_c t ht hM i hlt (fun j hj => nodE_par (firstE_allZ i hok j hj))
     have hR : nodE t i ≠ 0 → firstE (nodE t) t.nodes.length = nodE t i := fun h0 => firstE_stop hok h0 _ hlt
     have hR2 : nodE t i ≠ 0 → firstN (nodE t) (fun i => (t.nd i).name) t.nodes.length = t.nodes[i].name := fun h0 => by rw [firstN_stop hok h0 _ hlt, nd_at hlt]
     have hnx : nodE t i = 0 → firstE (nodE t) (i + 1) = 0 := fun h0 => by simp only [firstE, hok, h0, ↓reduceIte]
     generalize nodE t i = E at *
     try (simp [hlt])
     repeat (refine sR ?_; simp [hlt])
     refine Stop.of_d (hc _ _) ?_
     simp
     try (simp)
     repeat (refine sR ?_; simp)
     by_cases e7 : E = 0
     ·refine sC ?_
      simp [e7]
      try (simp [hw])
      repeat (refine sR ?_; simp [hw])
      refine sE ?_
      exact ⟨i + 1, ⟨hlt, hnx e7⟩, by omega, Weaks.mk (Nat.le_refl _) rfl (by simp [ToL, lk, lb_at]) (by simp [BoxL, lk])⟩
     ·have b7 : (E != 0) = true := by simp [e7]
      rw [hR e7, if_pos e7] at hN hZ
      rw [hR2 e7] at hZ
      refine sC ?_
      simp [e7, b7]
      try (simp [hlt])
      repeat (refine sR ?_; simp [hlt])
      refine sT ?_
      try simp only [AU]
      refine ⟨by simp, sF hbox htok (fun _ h => h) (Nat.le_refl _) ?_⟩
      simp [packA, ← hN, ← hZ]
    ·refine sX ?_
     simp only [AU, ↓reduceIte]
     have : i = t.nodes.length := by omega
     subst this
     rw [if_neg (by rw [hok]; simp)] at hN hZ
     try (simp)
     repeat (refine sR ?_; simp)
     refine sN ?_
     refine AL.loopT (stVe t nb box tok nt) (fun i => i ≤ t.edges.length ∧ firstE (edgE t) i = 0) (fun i => t.edges.length - i) 0 ⟨Nat.zero_le _, rfl⟩ (Weaks.mk (Nat.le_refl _) rfl (by simp [ToL, lk, lb_at]) (by simp [BoxL, lk])) ?_
     rintro i S' ⟨hi, hok2⟩ hS
     simp only [stVe] at hS
     subst hS
     have hw := sW (i := i) (by omega)
     try (simp)
     repeat (refine sR ?_; simp)
     refine sC ?_
     simp
     refine ⟨fun hlt => ?_, fun hge => ?_⟩
     ·have hc := edge_c t ht i hlt
      have hR : edgE t i ≠ 0 → firstE (edgE t) t.edges.length = edgE t i := fun h0 => firstE_stop hok2 h0 _ hlt
      have hR2 : edgE t i ≠ 0 → firstN (edgE t) (fun i => (t.ed i).name) t.edges.length = t.edges[i].name := fun h0 => by rw [firstN_stop hok2 h0 _ hlt, ed_at hlt]
      have hnx : edgE t i = 0 → firstE (edgE t) (i + 1) = 0 := fun h0 => by simp only [firstE, hok2, h0, ↓reduceIte]
      generalize edgE t i = E at *
      try (simp [hlt])
      repeat (refine sR ?_; simp [hlt])
      refine Stop.of_d (hc _ _) ?_
      simp
      try (simp)
      repeat (refine sR ?_; simp)
      by_cases e7 : E = 0
      ·refine sC ?_
       simp [e7]
       try (simp [hw])
       repeat (refine sR ?_; simp [hw])
       refine sE ?_
       exact ⟨i + 1, ⟨hlt, hnx e7⟩, by omega, Weaks.mk (Nat.le_refl _) rfl (by simp [ToL, lk, lb_at]) (by simp [BoxL, lk])⟩
      ·have b7 : (E != 0) = true := by simp [e7]
       rw [hR e7] at hN
       rw [hR2 e7] at hZ
       refine sC ?_
       simp [e7, b7]
       try (simp [hlt])
       repeat (refine sR ?_; simp [hlt])
       refine sT ?_
       try simp only [AU]
       refine ⟨by simp, sF hbox htok (fun _ h => h) (Nat.le_refl _) ?_⟩
       simp [packA, ← hN, ← hZ]
     ·refine sX ?_
      simp only [AU, ↓reduceIte]
      have : i = t.edges.length := by omega
      subst this
      rw [hok2] at hN
      rw [firstN_none _ hok2] at hZ
      try (simp)
      repeat (refine sR ?_; simp)
      refine sT ?_
      try simp only [AU]
      refine ⟨by simp, sF hbox htok (fun _ h => h) (Nat.le_refl _) ?_⟩
      simp [packA, ← hN, ← hZ]
end Go.AM
namespace Go.AM
open Go Go.Proofs
structure Ru where
 name : ByteArray
 lg : Gr
 lsl : List Sl
 lv : Int
 lte : List Te
 rg : Gr
 rsl : List Sl
 rv : Int
 rte : List Te
 k : Mo
 i : Mo
 inj : Bool
 c : Cd
abbrev Ru.row (r : Ru) : List AV := [.d (.raw (.string r.name)), .d (ints r.lg.nodes), .d (AM.edges r.lg.edges), .d (slots r.lsl), I r.lv, .d (tests r.lte), .d (ints r.rg.nodes), .d (AM.edges r.rg.edges), .d (slots r.rsl), I r.rv, .d (tests r.rte),
 .d (ints r.k.nodes), .d (ints r.k.edges), .d (ints r.i.nodes), .d (ints r.i.edges), B r.inj, I r.c.kind, .d (conds r.c.kids), .d (ints r.c.m.nodes), .d (ints r.c.m.edges), .d (ints r.c.g.nodes), .d (AM.edges r.c.g.edges), .d (slots r.c.sl), I r.c.vars, .d (tests r.c.te)]
abbrev Ru.av (r : Ru) : AV := .agg r.row
structure Ru.Fit (r : Ru) : Prop where
 lg : r.lg.Fit
 rg : r.rg.Fit
 k : r.k.Fit
 i : r.i.Fit
 ls : r.lsl.length ≤ bigN
 lt : r.lte.length ≤ bigN
 rs : r.rsl.length ≤ bigN
 rt : r.rte.length ≤ bigN
abbrev spAv (s : Sp) : AV := .agg [.d (ints s.l.nodes), .d (AM.edges s.l.edges), .d (ints s.r.nodes), .d (AM.edges s.r.edges), .d (ints s.k.nodes), .d (ints s.k.edges), .d (ints s.i.nodes), .d (ints s.i.edges)]
def Ru.sp (r : Ru) : Sp := ⟨r.lg, r.rg, r.k, r.i⟩
def Ru.plainL (r : Ru) : Prop := r.lsl.length + r.lte.length = 0 ∧ r.lv = 0
def Ru.plainR (r : Ru) : Prop := r.rsl.length + r.rte.length = 0 ∧ r.rv = 0
instance (r : Ru) : Decidable r.plainL := inferInstanceAs (Decidable (_ ∧ _))
instance (r : Ru) : Decidable r.plainR := inferInstanceAs (Decidable (_ ∧ _))
def strR (r : Ru) : Int :=
 if validG r.lg ≠ 0 then validG r.lg else if validG r.rg ≠ 0 then validG r.rg else if validP r.lg r.k ≠ 0 then validP r.lg r.k
 else if validM (exG r.lg r.k) r.rg r.i ≠ 0 then validM (exG r.lg r.k) r.rg r.i else if injM (exG r.lg r.k) r.rg r.i = false then 11
 else if r.plainL ∧ r.plainR ∧ r.inj = true then 0 else 8
theorem strR_zero {r : Ru} (h : strR r = 0) : SpOk r.sp ∧ validG r.lg = 0 ∧ validG r.rg = 0 := by
 unfold strR at h
 split at h
 ·contradiction
 ·split at h
  ·contradiction
  ·split at h
   ·contradiction
   ·split at h
    ·contradiction
    ·split at h
     ·cases h
     ·rename_i h1 h2 h3 h4 h5
      exact ⟨⟨VP.of (Decidable.not_not.1 h3), Emb.of (show injM (exG r.lg r.k) r.rg r.i = true by simpa using h5)⟩, Decidable.not_not.1 h1, Decidable.not_not.1 h2⟩
theorem mem_indexI {l m : List Int} (h : ∀ x ∈ l, x ∈ m) : ∀ i (hi : i < l.length), 0 ≤ indexI m l[i] ∧ indexI m l[i] < m.length := fun i hi => by
 have := indexI_in (h _ (List.getElem_mem hi))
 exact ⟨this.1, this.2.1⟩
def mapK (f : Int → Int) (l : List Int) (i : Nat) : List Int := (l.take i).map f
theorem mapK_zero (f : Int → Int) (l : List Int) : mapK f l 0 = [] := rfl
theorem mapK_succ (f : Int → Int) (l : List Int) {i : Nat} (h : i < l.length) : mapK f l (i + 1) = mapK f l i ++ [f l[i]] := by
 unfold mapK
 rw [← List.take_append_getElem h, List.map_append]; rfl
theorem mapK_all (f : Int → Int) (l : List Int) : mapK f l l.length = l.map f := by simp [mapK]
theorem mapK_len (f : Int → Int) (l : List Int) (i : Nat) : (mapK f l i).length ≤ i := by simp [mapK]; omega
end Go.AM
namespace Go.AM
open Go Go.Proofs
def goneK (images keep : List Int) (i : Nat) : List Int := ((List.range i).filter fun (i : Nat) => decide ((i : Int) ∉ keep)).map fun (i : Nat) => images.getD i 0
theorem goneK_zero (images keep : List Int) : goneK images keep 0 = [] := rfl
theorem goneK_succ (images keep : List Int) (i : Nat) : goneK images keep (i + 1) = if (i : Int) ∈ keep then goneK images keep i else goneK images keep i ++ [images.getD i 0] := by
 unfold goneK
 rw [List.range_succ, List.filter_append, List.map_append]
 by_cases h : (i : Int) ∈ keep
 ·simp [h]
 ·simp [h]
theorem goneK_len (images keep : List Int) (i : Nat) : (goneK images keep i).length ≤ i := by
 unfold goneK
 rw [List.length_map]
 have := List.length_filter_le (fun (i : Nat) => decide ((i : Int) ∉ keep)) (List.range i)
 simpa using this
def restX (n : Nat) (l : List Int) : List Int := ((List.range n).filter fun (k : Nat) => decide ((k : Int) ∉ l)).map fun (k : Nat) => (k : Int)
theorem restX_succ (l : List Int) (i : Nat) : restX (i + 1) l = if (i : Int) ∈ l then restX i l else restX i l ++ [(i : Int)] := by
 unfold restX
 rw [List.range_succ, List.filter_append, List.map_append]
 by_cases h : (i : Int) ∈ l
 ·simp [h]
 ·simp [h]
theorem restX_len (n : Nat) (l : List Int) : (restX n l).length ≤ n := by
 unfold restX
 rw [List.length_map]
 have := List.length_filter_le (fun (k : Nat) => decide ((k : Int) ∉ l)) (List.range n)
 simpa using this
theorem restX_zero (l : List Int) : restX 0 l = [] := rfl
def dangP (g : Gr) (keep m : Mo) (i : Nat) : Bool := decide ((i : Int) ∉ m.edges ∧ ((g.edges.getD i default).fr ∈ goneI m.nodes keep.nodes ∨ (g.edges.getD i default).to ∈ goneI m.nodes keep.nodes))
def dangI (g : Gr) (keep m : Mo) (n : Nat) : List Int := ((List.range n).filter (dangP g keep m)).map fun (k : Nat) => (k : Int)
theorem dangI_succ (g : Gr) (keep m : Mo) (i : Nat) : dangI g keep m (i + 1) = if dangP g keep m i = true then dangI g keep m i ++ [(i : Int)] else dangI g keep m i := by
 unfold dangI
 rw [List.range_succ, List.filter_append, List.map_append]
 by_cases h : dangP g keep m i = true
 ·simp [h]
 ·simp [h]
theorem dangI_len (g : Gr) (keep m : Mo) (n : Nat) : (dangI g keep m n).length ≤ n := by
 unfold dangI
 rw [List.length_map]
 have := List.length_filter_le (dangP g keep m) (List.range n)
 simpa using this
theorem dangI_any (g : Gr) (keep m : Mo) : decide (0 < (dangI g keep m g.edges.length).length) = dangL g keep m := by
 rw [Bool.eq_iff_iff, decide_eq_true_eq, dangL, List.any_eq_true, dangI, List.length_map, List.length_pos_iff_exists_mem]
 constructor
 ·rintro ⟨k, hk⟩; have := List.mem_filter.1 hk; exact ⟨k, this.1, this.2⟩
 ·rintro ⟨k, h1, h2⟩; exact ⟨k, List.mem_filter.2 ⟨h1, h2⟩⟩
theorem dangI_zero (g : Gr) (keep m : Mo) : dangI g keep m 0 = [] := rfl
def cmpR (l g : Gr) (keep m : Mo) : Mo × Int := if dangL g keep m = true then (⟨[], []⟩, 14) else (cmpl g keep m, 0)
theorem restX_rest (n : Nat) (images keep : List Int) : restX n (goneI images keep) = restI n images keep := rfl
theorem goneI_len (images keep : List Int) : (goneI images keep).length ≤ images.length := goneK_len images keep images.length
end Go.AM
namespace Go.AM
open Go Go.Proofs
abbrev glAv (l g : Gr) (keep m : Mo) : AV := .agg [.d (ints l.nodes), .d (AM.edges l.edges), .d (ints g.nodes), .d (AM.edges g.edges), .d (ints keep.nodes), .d (ints keep.edges), .d (ints m.nodes), .d (ints m.edges)]
theorem cgiven_c (l g : Gr) (keep m : Mo) (hl : l.Fit) (hg : g.Fit) (hm : m.Fit) (hk : keep.Fit) (tok : Tks) (nt : Nat) :
  DCall Tryz.prog 293 [glAv l g keep m] tok nt (I (if validM l g m ≠ 0 then validM l g m else validP l keep)) tok nt := by
 intro box nb
 have h1 := valid51_c l g m hl hg
 have h2 := validP_c l keep hl hk
 refine sB Tryz.func293 Tryz.ntmps293 ?_
 intro hbox htok
 simp only at hbox htok
 apply AL.start
 try (simp)
 repeat (refine sR ?_; simp)
 refine Stop.of_d (h1 _ _) ?_
 simp
 try (simp)
 repeat (refine sR ?_; simp)
 by_cases e1 : validM l g m = 0
 ·simp only [e1]
  refine sC ?_
  simp
  try (simp)
  repeat (refine sR ?_; simp)
  refine Stop.of_d (h2 _ _) ?_
  simp
  try (simp)
  repeat (refine sR ?_; simp)
  refine sT ?_
  try simp only [AU]
  refine ⟨by simp, sF hbox htok (fun _ h => h) (Nat.le_refl _) ?_⟩
  simp [packA, e1]
 ·have b1 : (validM l g m != 0) = true := by simp [e1]
  simp only [b1]
  refine sC ?_
  simp
  try (simp)
  repeat (refine sR ?_; simp)
  refine sT ?_
  try simp only [AU]
  refine ⟨by simp, sF hbox htok (fun _ h => h) (Nat.le_refl _) ?_⟩
  simp [packA, e1]
def stDe (l g : Gr) (keep m : Mo) (nb : Nat) (box : Bxs) (x : Acc) : AState :=
 ⟨tl [(10, I x.i), (9, I m.nodes.length), (8, .d (ints m.nodes)), (3, .osl 1 (rI (goneK m.nodes keep.nodes x.i)) x.own), (1, .ptr (nb + 1) 0 0)], lb nb box [(1, [[.d (ints l.nodes), .d (AM.edges l.edges), .d (ints g.nodes), .d (AM.edges g.edges), .d (ints keep.nodes), .d (ints keep.edges), .d (ints m.nodes), .d (ints m.edges)]])], x.tok, x.nt⟩
theorem deleted_c (l g : Gr) (keep m : Mo) (hm : m.Fit) (hk : keep.Fit) (tok : Tks) (nt : Nat) : DCall Tryz.prog 323 [glAv l g keep m] tok nt (.d (ints (goneI m.nodes keep.nodes))) tok nt := by
 intro box nb
 have hh := fun v => contains_c keep.nodes v hk.n
 refine sB Tryz.func323 Tryz.ntmps323 ?_
 intro hbox htok
 simp only at hbox htok
 apply AL.start
 try (simp)
 repeat (refine sR ?_; simp)
 refine sN ?_
 have hmn := hm.n
 refine AL.loopT (stDe l g keep m nb box) (fun x => x.i ≤ m.nodes.length ∧ TK tok nt x.tok x.nt [x.own]) (fun x => m.nodes.length - x.i) ⟨0, .full, tok, nt⟩ ⟨Nat.zero_le _, (TK.start htok).full⟩ (Weaks.mk (Nat.le_refl _) rfl (by simp [ToL, lk, goneK_zero]) (by simp [BoxL, lk])) ?_
 rintro ⟨i, own, tok', nt'⟩ S ⟨hi, htk⟩ hS
 simp only [stDe] at hS hi htk
 subst hS
 have hw := sW (i := i) (by omega)
 have hsc := goneK_succ m.nodes keep.nodes i
 have hlen := goneK_len m.nodes keep.nodes i
 try (simp)
 repeat (refine sR ?_; simp)
 refine sC ?_
 simp
 refine ⟨fun hlt => ?_, fun hge => ?_⟩
 ·have hg : m.nodes.getD i 0 = m.nodes[i] := by simp [hlt]
  rw [hg] at hsc
  try (simp [hlt])
  repeat (refine sR ?_; simp [hlt])
  refine Stop.of_d (hh _ _ _) ?_
  simp
  by_cases hmm : (i : Int) ∈ keep.nodes
  ·rw [if_pos hmm] at hsc
   simp only [hmm]
   try (simp)
   repeat (refine sR ?_; simp)
   refine sC ?_
   simp
   try (simp [hw])
   repeat (refine sR ?_; simp [hw])
   refine sE ?_
   exact ⟨⟨i + 1, own, tok', nt'⟩, ⟨hlt, htk⟩, by simp only; omega, Weaks.mk htk.le rfl (by simp [ToL, lk, hsc]) (by simp [BoxL, lk])⟩
  ·rw [if_neg hmm] at hsc
   simp only [hmm]
   try (simp)
   repeat (refine sR ?_; simp)
   refine sC ?_
   simp
   try (simp)
   repeat (refine sR ?_; simp)
   refine ⟨⟨by omega, htk.live⟩, ?_⟩
   try (simp [hw])
   repeat (refine sR ?_; simp [hw])
   refine sE ?_
   exact ⟨⟨i + 1, _, _, _⟩, ⟨hlt, htk.app⟩, by simp only; omega, Weaks.mk htk.app.le rfl (by simp [ToL, lk, hsc]) (by simp [BoxL, lk])⟩
 ·refine sX ?_
  simp only [AU, ↓reduceIte]
  have : i = m.nodes.length := by omega
  subst this
  try (simp)
  repeat (refine sR ?_; simp)
  have e : goneI m.nodes keep.nodes = goneK m.nodes keep.nodes m.nodes.length := rfl
  refine sT ?_
  try simp only [AU]
  refine ⟨by simp, sF hbox htok htk.old htk.le ?_⟩
  simp [packA, e]
def stCp (images keep : List Int) (nb : Nat) (box : Bxs) (tok : Tks) (nt : Nat) (i : Nat) : AState := ⟨tl [(10, I i), (9, I images.length), (8, .d (ints images)), (0, .d (ints images)), (1, .d (ints keep)), (5, .osl 0 [] .full)], lb nb box [], tok, nt⟩
def stCpb (images keep : List Int) (i : Nat) (nb : Nat) (box : Bxs) (tok : Tks) (nt : Nat) (k : Nat) : AState := ⟨tl [(10, I i), (9, I images.length), (8, .d (ints images)), (0, .d (ints images)), (1, .d (ints keep)), (5, .osl 0 [] .full), (6, I i), (7, I k)], lb nb box [], tok, nt⟩
theorem cpairs_c (images keep : List Int) (h1 : images.length ≤ 1000000) (h2 : keep.length ≤ 1000000) (hn : images.Nodup) (tok : Tks) (nt : Nat) : DCall Tryz.prog 322 [.d (ints images), .d (ints keep)] tok nt (.d (.sl 2 [])) tok nt := by
 intro box nb
 refine sB Tryz.func322 Tryz.ntmps322 ?_
 intro hbox htok
 simp only at hbox htok
 apply AL.start
 try (simp)
 repeat (refine sR ?_; simp)
 refine sN ?_
 refine AL.loopT (stCp images keep nb box tok nt) (fun i => i ≤ images.length) (fun i => images.length - i) 0 (Nat.zero_le _) (Weaks.mk (Nat.le_refl _) rfl (by simp [ToL, lk]) trivial) ?_
 rintro i S hi hS
 simp only [stCp] at hS
 subst hS
 have hw := sW (i := i) (by omega)
 try (simp)
 repeat (refine sR ?_; simp)
 refine sC ?_
 simp
 refine ⟨fun hlt => ?_, fun hge => ?_⟩
 ·try (simp [hw])
  repeat (refine sR ?_; simp [hw])
  refine sN ?_
  refine AL.loopT (stCpb images keep i nb box tok nt) (fun k => i < k ∧ k ≤ images.length) (fun k => images.length - k) (i + 1) ⟨Nat.lt_succ_self _, hlt⟩ (Weaks.mk (Nat.le_refl _) rfl (by simp [ToL, lk]) trivial) ?_
  rintro k S ⟨hik, hk⟩ hS
  simp only [stCpb] at hS
  subst hS
  have hwk := sW (i := k) (by omega)
  try (simp)
  repeat (refine sR ?_; simp)
  refine sC ?_
  simp
  refine ⟨fun hlk => ?_, fun hge => ?_⟩
  ·have hne : (images[i] == images[k]) = false := by
    have := List.pairwise_iff_getElem.1 hn i k hlt hlk hik
    simpa using this
   try (simp [hlt, hlk, hne])
   repeat (refine sR ?_; simp [hlt, hlk, hne])
   refine sC ?_
   simp
   try (simp [hwk])
   repeat (refine sR ?_; simp [hwk])
   refine sE ?_
   exact ⟨k + 1, ⟨by omega, hlk⟩, by omega, Weaks.mk (Nat.le_refl _) rfl (by simp [ToL, lk]) trivial⟩
  ·refine sX ?_
   simp only [AU, ↓reduceIte]
   try (simp [hw])
   repeat (refine sR ?_; simp [hw])
   refine sE ?_
   exact ⟨i + 1, hlt, by omega, Weaks.mk (Nat.le_refl _) rfl (by simp [ToL, lk]) trivial⟩
 ·refine sX ?_
  simp only [AU, ↓reduceIte]
  try (simp)
  repeat (refine sR ?_; simp)
  refine sT ?_
  try simp only [AU]
  refine ⟨by simp, sF hbox htok (fun _ h => h) (Nat.le_refl _) ?_⟩
  simp [packA]
def stCd (l g : Gr) (keep m : Mo) (nb : Nat) (box : Bxs) (x : Acc) : AState :=
 ⟨tl [(13, I x.i), (12, I g.edges.length), (11, .d (AM.edges g.edges)), (4, .osl 1 (rI (dangI g keep m x.i)) x.own), (3, .d (ints (goneI m.nodes keep.nodes))), (1, .ptr (nb + 1) 0 0)], lb nb box [(1, [[.d (ints l.nodes), .d (AM.edges l.edges), .d (ints g.nodes), .d (AM.edges g.edges), .d (ints keep.nodes), .d (ints keep.edges), .d (ints m.nodes), .d (ints m.edges)]])], x.tok, x.nt⟩
theorem cdangling_c (l g : Gr) (keep m : Mo) (hg : g.Fit) (hm : m.Fit) (hk : keep.Fit) (tok : Tks) (nt : Nat) : DCall Tryz.prog 295 [glAv l g keep m] tok nt (.d (ints (dangI g keep m g.edges.length))) tok nt := by
 intro box nb
 have hh := fun v => contains_c m.edges v hm.e
 have hgo := deleted_c l g keep m hm hk
 have hh2 := fun v => contains_c (goneI m.nodes keep.nodes) v (by have := goneI_len m.nodes keep.nodes; have := hm.n; omega)
 refine sB Tryz.func295 Tryz.ntmps295 ?_
 intro hbox htok
 simp only at hbox htok
 apply AL.start
 try (simp)
 repeat (refine sR ?_; simp)
 refine Stop.of_d (hgo _ _) ?_
 simp
 try (simp)
 repeat (refine sR ?_; simp)
 refine sN ?_
 have hge := hg.e
 refine AL.loopT (stCd l g keep m nb box) (fun x => x.i ≤ g.edges.length ∧ TK tok nt x.tok x.nt [x.own]) (fun x => g.edges.length - x.i) ⟨0, .full, tok, nt⟩ ⟨Nat.zero_le _, (TK.start htok).full⟩ (Weaks.mk (Nat.le_refl _) rfl (by simp [ToL, lk, dangI_zero]) (by simp [BoxL, lk])) ?_
 rintro ⟨i, own, tok', nt'⟩ S ⟨hi, htk⟩ hS
 simp only [stCd] at hS hi htk
 subst hS
 have hw := sW (i := i) (by omega)
 have hsc := dangI_succ g keep m i
 have hlen := dangI_len g keep m i
 try (simp)
 repeat (refine sR ?_; simp)
 refine sC ?_
 simp
 refine ⟨fun hlt => ?_, fun hge => ?_⟩
 ·have hg1 : g.edges.getD i default = g.edges[i] := by simp [hlt]
  have hP : dangP g keep m i = (decide ((i : Int) ∉ m.edges) && (decide (g.edges[i].fr ∈ goneI m.nodes keep.nodes) || decide (g.edges[i].to ∈ goneI m.nodes keep.nodes))) := by unfold dangP; rw [hg1]; simp
  have no : dangP g keep m i = false → dangI g keep m (i + 1) = dangI g keep m i := fun h => by rw [hsc, if_neg (by simp [h])]
  have yes : dangP g keep m i = true → dangI g keep m (i + 1) = dangI g keep m i ++ [(i : Int)] := fun h => by rw [hsc, if_pos h]
  try (simp [hlt])
  repeat (refine sR ?_; simp [hlt])
  refine Stop.of_d (hh _ _ _) ?_
  simp
  by_cases hmm : (i : Int) ∈ m.edges
  ·have no := no (by rw [hP]; simp [hmm])
   simp only [hmm]
   try (simp)
   repeat (refine sR ?_; simp)
   refine sC ?_
   simp
   try (simp [hw])
   repeat (refine sR ?_; simp [hw])
   refine sE ?_
   exact ⟨⟨i + 1, own, tok', nt'⟩, ⟨hlt, htk⟩, by simp only; omega, Weaks.mk htk.le rfl (by simp [ToL, lk, no]) (by simp [BoxL, lk])⟩
  ·simp only [hmm]
   try (simp)
   repeat (refine sR ?_; simp)
   refine Stop.of_d (hh2 _ _ _) ?_
   simp
   by_cases h1 : g.edges[i].fr ∈ goneI m.nodes keep.nodes
   ·have yes := yes (by rw [hP]; simp [hmm, h1])
    simp only [h1]
    try (simp)
    repeat (refine sR ?_; simp)
    refine sC ?_
    simp
    try (simp)
    repeat (refine sR ?_; simp)
    refine ⟨⟨by omega, htk.live⟩, ?_⟩
    try (simp [hw])
    repeat (refine sR ?_; simp [hw])
    refine sE ?_
    exact ⟨⟨i + 1, _, _, _⟩, ⟨hlt, htk.app⟩, by simp only; omega, Weaks.mk htk.app.le rfl (by simp [ToL, lk, yes]) (by simp [BoxL, lk])⟩
   ·simp only [h1]
    try (simp)
    repeat (refine sR ?_; simp)
    refine Stop.of_d (hh2 _ _ _) ?_
    simp
    by_cases h2 : g.edges[i].to ∈ goneI m.nodes keep.nodes
    ·have yes := yes (by rw [hP]; simp [hmm, h2])
     simp only [h2]
     try (simp)
     repeat (refine sR ?_; simp)
     refine sC ?_
     simp
     try (simp)
     repeat (refine sR ?_; simp)
     refine ⟨⟨by omega, htk.live⟩, ?_⟩
     try (simp [hw])
     repeat (refine sR ?_; simp [hw])
     refine sE ?_
     exact ⟨⟨i + 1, _, _, _⟩, ⟨hlt, htk.app⟩, by simp only; omega, Weaks.mk htk.app.le rfl (by simp [ToL, lk, yes]) (by simp [BoxL, lk])⟩
    ·have no := no (by rw [hP]; simp [hmm, h1, h2])
     simp only [h2]
     try (simp)
     repeat (refine sR ?_; simp)
     refine sC ?_
     simp
     try (simp [hw])
     repeat (refine sR ?_; simp [hw])
     refine sE ?_
     exact ⟨⟨i + 1, own, tok', nt'⟩, ⟨hlt, htk⟩, by simp only; omega, Weaks.mk htk.le rfl (by simp [ToL, lk, no]) (by simp [BoxL, lk])⟩
 ·refine sX ?_
  simp only [AU, ↓reduceIte]
  have : i = g.edges.length := by omega
  subst this
  try (simp)
  repeat (refine sR ?_; simp)
  refine sT ?_
  try simp only [AU]
  refine ⟨by simp, sF hbox htok htk.old htk.le ?_⟩
  simp [packA, ]
def rowsB (bs : List Bool) : List (List AV) := bs.map fun b => [AV.d (.raw (.bool b))]
theorem rowsB_eq (bs : List Bool) : rowsB bs = rowsD (bs.map fun b => [D.raw (.bool b)]) := by simp [rowsB, rowsD]
@[simp] theorem set_rB (bs : List Bool) (i : Nat) (v : Bool) : (rowsB bs).set i [AV.d (.raw (.bool v))] = rowsB (bs.set i v) := by simp [rowsB, List.map_set]
@[simp] theorem rowsB_length (bs : List Bool) : (rowsB bs).length = bs.length := by simp [rowsB]
@[simp high] theorem rowsB_get {bs : List Bool} {i : Nat} (h : i < bs.length) : (rowsB bs)[i]? = some [AV.d (.raw (.bool bs[i]))] := by simp [rowsB, h]
@[simp] theorem rowsTo_B {p q : Nat → Prop} {fz : Option (Nat × Nat × List (List D))} (bs : List Bool) : RowsTo p q fz (rowsB bs) (rowsB bs) := by rw [rowsB_eq]; simp
def goneB (n : Nat) (images keep : List Int) : Nat → List Bool
 | 0 => List.replicate n false
 | i + 1 => if (i : Int) ∈ keep then goneB n images keep i else (goneB n images keep i).set (images.getD i 0).toNat true
theorem goneB_len (n : Nat) (images keep : List Int) : ∀ i, (goneB n images keep i).length = n
 | 0 => by simp [goneB]
 | i + 1 => by
  unfold goneB
  split
  ·exact goneB_len n images keep i
  ·rw [List.length_set]; exact goneB_len n images keep i
theorem goneB_get (n : Nat) (images keep : List Int) (hr : ∀ x ∈ images, 0 ≤ x ∧ x < n) : ∀ i, i ≤ images.length → ∀ k, k < n → (goneB n images keep i).getD k false = decide ((k : Int) ∈ goneK images keep i)
 | 0, _, k, hk => by simp [goneB, goneK_zero, hk]
 | i + 1, hi, k, hk => by
  have ih := goneB_get n images keep hr i (by omega) k hk
  have rg := hr _ (getD_mem (d := 0) (show i < images.length by omega))
  rw [goneK_succ]
  unfold goneB
  by_cases hm : (i : Int) ∈ keep
  ·rw [if_pos hm, if_pos hm]; exact ih
  ·rw [if_neg hm, if_neg hm]
   have hl := goneB_len n images keep i
   by_cases e : (images.getD i 0).toNat = k
   ·rw [e, List.getD_eq_getElem?_getD, List.getElem?_set_self (by omega)]
    have : (k : Int) = images.getD i 0 := by omega
    simp [this]
   ·rw [List.getD_eq_getElem?_getD, List.getElem?_set_ne e, ← List.getD_eq_getElem?_getD, ih]
    have : ¬ (k : Int) = images.getD i 0 := by omega
    rw [decide_eq_decide, List.mem_append, List.mem_singleton]
    simp only [this, or_false]
def stR1 (n : Nat) (images keep : List Int) (nb : Nat) (box : Bxs) (tok : Tks) (nt : Nat) (i : Nat) : AState :=
 ⟨tl [(17, I i), (16, I images.length), (15, .d (ints images)), (7, .msl (nb + 14) 0 n 1), (6, .osl 0 [] .full), (0, I n), (2, .d (ints keep))], lb nb box [(14, rowsB (goneB n images keep i))], tok, nt⟩
def stR2 (n : Nat) (images keep : List Int) (nb : Nat) (box : Bxs) (x : Acc) : AState :=
 ⟨tl [(32, I x.i), (31, I n), (30, .msl (nb + 14) 0 n 1), (10, .osl 1 (rI (restX x.i (goneI images keep))) x.own)], lb nb box [(14, rowsB (goneB n images keep images.length))], x.tok, x.nt⟩
theorem crest_c (n : Nat) (images keep : List Int) (hn : n ≤ 1000000) (h1 : images.length ≤ 1000000) (h2 : keep.length ≤ 1000000) (hr : ∀ x ∈ images, 0 ≤ x ∧ x < n) (tok : Tks) (nt : Nat) :
  DCall Tryz.prog 296 [I n, .d (ints images), .d (ints keep)] tok nt (.d (ints (restI n images keep))) tok nt := by
 intro box nb
 have hh := fun v => contains_c keep v h2
 refine sB Tryz.func296 Tryz.ntmps296 ?_
 intro hbox htok
 simp only at hbox htok
 apply AL.start
 try (simp)
 repeat (refine sR ?_; simp)
 refine ⟨by omega, ?_⟩
 try (simp)
 repeat (refine sR ?_; simp)
 refine sN ?_
 have hrep : List.replicate n [B false] = rowsB (goneB n images keep 0) := by simp [goneB, rowsB]
 refine AL.loopT (stR1 n images keep nb box tok nt) (fun i => i ≤ images.length) (fun i => images.length - i) 0 (Nat.zero_le _) (Weaks.mk (Nat.le_refl _) rfl (by simp [ToL, lk]) (by simp [BoxL, lk, hrep])) ?_
 rintro i S hi hS
 simp only [stR1] at hS
 subst hS
 have hw := sW (i := i) (by omega)
 have hgl := goneB_len n images keep i
 try (simp)
 repeat (refine sR ?_; simp)
 refine sC ?_
 simp
 refine ⟨fun hlt => ?_, fun hge => ?_⟩
 ·obtain ⟨r1, r2⟩ := hr _ (List.getElem_mem hlt)
  have r3 : images[i].toNat < n := by omega
  have hg : images.getD i 0 = images[i] := by simp [hlt]
  try (simp [hlt])
  repeat (refine sR ?_; simp [hlt])
  refine Stop.of_d (hh _ _ _) ?_
  simp
  by_cases hm : (i : Int) ∈ keep
  ·have hsc : goneB n images keep (i + 1) = goneB n images keep i := if_pos hm
   simp only [hm]
   try (simp)
   repeat (refine sR ?_; simp)
   refine sC ?_
   simp
   try (simp [hw])
   repeat (refine sR ?_; simp [hw])
   refine sE ?_
   exact ⟨i + 1, hlt, by omega, Weaks.mk (Nat.le_refl _) rfl (by simp [ToL, lk]) (by simp [BoxL, lk, hsc])⟩
  ·have hsc : goneB n images keep (i + 1) = (goneB n images keep i).set images[i].toNat true := by rw [← hg]; exact if_neg hm
   simp only [hm]
   try (simp)
   repeat (refine sR ?_; simp)
   refine sC ?_
   simp
   try (simp [r1, r2, r3, hgl, hw])
   repeat (refine sR ?_; simp [r1, r2, r3, hgl, hw])
   refine sE ?_
   exact ⟨i + 1, hlt, by omega, Weaks.mk (Nat.le_refl _) rfl (by simp [ToL, lk]) (by simp [BoxL, lk, hsc])⟩
 ·refine sX ?_
  simp only [AU, ↓reduceIte]
  have : i = images.length := by omega
  subst this
  try (simp)
  repeat (refine sR ?_; simp)
  refine sN ?_
  refine AL.loopT (stR2 n images keep nb box) (fun x => x.i ≤ n ∧ TK tok nt x.tok x.nt [x.own]) (fun x => n - x.i) ⟨0, .full, tok, nt⟩ ⟨Nat.zero_le _, (TK.start htok).full⟩ (Weaks.mk (Nat.le_refl _) rfl (by simp [ToL, lk, restX_zero]) (by simp [BoxL, lk])) ?_
  rintro ⟨i, own, tok', nt'⟩ S ⟨hi, htk⟩ hS
  simp only [stR2] at hS hi htk
  subst hS
  have hw := sW (i := i) (by omega)
  have hsc := restX_succ (goneI images keep) i
  have hlen := restX_len i (goneI images keep)
  have hgt := goneB_get n images keep hr images.length (Nat.le_refl _) i
  try (simp)
  repeat (refine sR ?_; simp)
  refine sC ?_
  simp
  refine ⟨fun hlt => ?_, fun hge => ?_⟩
  ·have hgt := hgt hlt
   have hgl' := goneB_len n images keep images.length
   have hgt : (goneB n images keep images.length)[i]'(by omega) = decide ((i : Int) ∈ goneI images keep) := by
    have h : (goneB n images keep images.length)[i]? = some ((goneB n images keep images.length)[i]'(by omega)) := List.getElem?_eq_getElem (by omega)
    rw [List.getD_eq_getElem?_getD, h] at hgt
    exact hgt
   try (simp [hlt, hgl'])
   repeat (refine sR ?_; simp [hlt, hgl'])
   rw [hgt]
   by_cases hm : (i : Int) ∈ goneI images keep
   ·rw [if_pos hm] at hsc
    simp only [hm]
    refine sC ?_
    simp
    try (simp [hw])
    repeat (refine sR ?_; simp [hw])
    refine sE ?_
    exact ⟨⟨i + 1, own, tok', nt'⟩, ⟨hlt, htk⟩, by simp only; omega, Weaks.mk htk.le rfl (by simp [ToL, lk, hsc]) (by simp [BoxL, lk])⟩
   ·rw [if_neg hm] at hsc
    simp only [hm]
    refine sC ?_
    simp
    try (simp)
    repeat (refine sR ?_; simp)
    refine ⟨⟨by omega, htk.live⟩, ?_⟩
    try (simp [hw])
    repeat (refine sR ?_; simp [hw])
    refine sE ?_
    exact ⟨⟨i + 1, _, _, _⟩, ⟨hlt, htk.app⟩, by simp only; omega, Weaks.mk htk.app.le rfl (by simp [ToL, lk, hsc]) (by simp [BoxL, lk])⟩
  ·refine sX ?_
   simp only [AU, ↓reduceIte]
   have : i = n := by omega
   subst this
   try (simp)
   repeat (refine sR ?_; simp)
   refine sT ?_
   try simp only [AU]
   refine ⟨by simp, sF hbox htok htk.old htk.le ?_⟩
   simp [packA, restX_rest]
theorem cident_c (l g : Gr) (keep m : Mo) (hm : m.Fit) (hk : keep.Fit) (hn : m.nodes.Nodup) (he : m.edges.Nodup) (tok : Tks) (nt : Nat) : DCall Tryz.prog 294 [glAv l g keep m] tok nt (.tup [.d (.sl 2 []), .d (.sl 2 [])]) tok nt := by
 intro box nb
 have i1 := cpairs_c m.nodes keep.nodes hm.n hk.n hn
 have i2 := cpairs_c m.edges keep.edges hm.e hk.e he
 refine sB Tryz.func294 Tryz.ntmps294 ?_
 intro hbox htok
 simp only at hbox htok
 apply AL.start
 try (simp)
 repeat (refine sR ?_; simp)
 refine Stop.of_d (i1 _ _) ?_
 simp
 try (simp)
 repeat (refine sR ?_; simp)
 refine Stop.of_d (i2 _ _) ?_
 simp
 try (simp)
 repeat (refine sR ?_; simp)
 refine sT ?_
 try simp only [AU]
 refine ⟨by simp, sF hbox htok (fun _ h => h) (Nat.le_refl _) ?_⟩
 simp [packA]
theorem ofP_c (l g : Gr) (keep m : Mo) (hl : l.Fit) (hg : g.Fit) (hm : m.Fit) (hk : keep.Fit) (he : Emb l g m) (hp : VP l keep) (tok : Tks) (nt : Nat) :
  DCall Tryz.prog 264 [l.av, g.av, keep.av, m.av] tok nt (.tup [(cmpR l g keep m).1.av, I (cmpR l g keep m).2]) tok nt := by
 intro box nb
 have h1 := cgiven_c l g keep m hl hg hm hk
 rw [he.v, hp.v] at h1
 have i1 := cident_c l g keep m hm hk he.n he.e
 have hd := cdangling_c l g keep m hg hm hk
 have hda := dangI_any g keep m
 have hgn := hg.n
 have hge := hg.e
 have v := he.vm
 have r1 := crest_c g.nodes.length m.nodes keep.nodes (by omega) hm.n hk.n v.n
 have r2 := crest_c g.edges.length m.edges keep.edges (by omega) hm.e hk.e v.e
 have w0 : IntKind.i64.wrap 0 = 0 := rfl
 refine sB Tryz.func264 Tryz.ntmps264 ?_
 intro hbox htok
 simp only at hbox htok
 apply AL.start
 try (simp)
 repeat (refine sR ?_; simp)
 refine Stop.of_d (h1 _ _) ?_
 simp
 try (simp)
 repeat (refine sR ?_; simp)
 refine sC ?_
 simp
 try (simp)
 repeat (refine sR ?_; simp)
 refine Stop.of_d (i1 _ _) ?_
 simp
 try (simp [w0])
 repeat (refine sR ?_; simp [w0])
 have hcd : cmpl g keep m = ⟨restI g.nodes.length m.nodes keep.nodes, restI g.edges.length m.edges keep.edges⟩ := rfl
 refine sC ?_
 simp
 try (simp)
 repeat (refine sR ?_; simp)
 refine Stop.of_d (hd _ _) ?_
 simp
 try (simp)
 repeat (refine sR ?_; simp)
 rw [hda]
 cases hx : dangL g keep m
 ·refine sC ?_
  simp
  try (simp)
  repeat (refine sR ?_; simp)
  refine Stop.of_d (r1 _ _) ?_
  simp
  try (simp)
  repeat (refine sR ?_; simp)
  refine Stop.of_d (r2 _ _) ?_
  simp
  try (simp)
  repeat (refine sR ?_; simp)
  refine sT ?_
  try simp only [AU]
  refine ⟨by simp, sF hbox htok (fun _ h => h) (Nat.le_refl _) ?_⟩
  simp [packA, cmpR, hx, hcd]
 ·refine sC ?_
  simp
  try (simp)
  repeat (refine sR ?_; simp)
  refine sT ?_
  try simp only [AU]
  refine ⟨by simp, sF hbox htok (fun _ h => h) (Nat.le_refl _) ?_⟩
  simp [packA, cmpR, hx, ints]
end Go.AM
