/-
 Parts of the proof, as merged from many texts: a machine over data, what the functions compute, plain laws.
-/
import Derived.Test.YtfgcpmeadeehhaaGreatPTD7
import Derived.Shelf.Small.Strs
import Derived.Shelf.Strings.Search1
import Derived.Shelf.Slices.Reverse
import Derived.Ground.Names2Prog
import Derived.Test.YtfgcpmeadeehhaaGreatProg
import Derived.Laws.Strings
import Derived.WideShapes
set_option linter.unusedSimpArgs false
set_option linter.unusedVariables false
namespace Go.AM
open Go Go.Proofs
def stGN (n k : Nat) (nb : Nat) (box : Bxs) (x : Acc) : AState := ⟨tl [(8, I x.i), (7, I k), (5, .osl 1 (rI (iotaF n x.i)) x.own), (0, I n)], lb nb box [], x.tok, x.nt⟩
theorem gnumbers_c (n k : Nat) (hn : n ≤ 1000000) (hk : k ≤ 1000000) (tok : Tks) (nt : Nat) : DCall Tryz.prog 240 [I n, I k] tok nt (.d (ints (iotaF n k))) tok nt := by
 intro box nb
 refine sB Tryz.func240 Tryz.ntmps240 ?_
 intro hbox htok
 simp only at hbox htok
 apply AL.start
 try (simp)
 repeat (refine sR ?_; simp)
 refine sN ?_
 refine AL.loopT (stGN n k nb box) (fun x => x.i ≤ k ∧ TK tok nt x.tok x.nt [x.own]) (fun x => k - x.i) ⟨0, .full, tok, nt⟩ ⟨Nat.zero_le _, (TK.start htok).full⟩ (Weaks.mk (Nat.le_refl _) rfl (by simp [ToL, lk, iotaF_zero]) trivial) ?_
 rintro ⟨i, own, tok', nt'⟩ S ⟨hi, htk⟩ hS
 simp only [stGN] at hS hi htk
 subst hS
 have hw := sW (i := i) (by omega)
 have hw2 : IntKind.i64.wrap (↑n + ↑i) = ((n + i : Nat) : Int) := by rw [wrap_in (by omega) (by omega)]; omega
 have hl := iotaF_len n i
 have hs := iotaF_succ n i
 try (simp)
 repeat (refine sR ?_; simp)
 refine sC ?_
 simp
 refine ⟨fun hlt => ?_, fun hge => ?_⟩
 ·try (simp [hw2])
  repeat (refine sR ?_; simp [hw2])
  refine ⟨⟨by omega, htk.live⟩, ?_⟩
  try (simp [hw])
  repeat (refine sR ?_; simp [hw])
  refine sE ?_
  exact ⟨⟨i + 1, _, _, _⟩, ⟨hlt, htk.app⟩, by simp only; omega, Weaks.mk htk.app.le rfl (by simp [ToL, lk, hs]) trivial⟩
 ·refine sX ?_
  simp only [AU, ↓reduceIte]
  have : i = k := by omega
  subst this
  try (simp)
  repeat (refine sR ?_; simp)
  refine sT ?_
  try simp only [AU]
  refine ⟨by simp, sF hbox htok htk.old htk.le ?_⟩
  simp [packA, ]
def folK (l h : List Int) (i : Nat) : List Int := byK l h i ++ List.replicate (l.length - i) 0
theorem folK_len (l h : List Int) {i : Nat} (hi : i ≤ l.length) : (folK l h i).length = l.length := by simp [folK, byK]; omega
theorem folK_set (l h : List Int) {i : Nat} (hi : i < l.length) (h2 : l[i].toNat < h.length) : (folK l h i).set i h[l[i].toNat] = folK l h (i + 1) := by
 unfold folK
 have e : (byK l h i).length = i := by simp [byK]; omega
 have e2 : l.length - i = (l.length - (i + 1)) + 1 := by omega
 rw [List.set_append, e, if_neg (by omega), Nat.sub_self, e2, List.replicate_succ, List.set_cons_zero, byK_succ l h hi]
 simp [h2]
def stFw (l h : List Int) (nb : Nat) (box : Bxs) (tok : Tks) (nt : Nat) (i : Nat) : AState :=
 ⟨tl [(13, I i), (12, I l.length), (11, .d (ints l)), (5, .msl (nb + 10) 0 l.length 1), (1, .d (ints h))], lb nb box [(10, rowsI (folK l h i))], tok, nt⟩
theorem follow_c (l h : List Int) (hl : l.length ≤ 1000000) (hr : ∀ x ∈ l, 0 ≤ x ∧ x < h.length) (tok : Tks) (nt : Nat) : DCall Tryz.prog 243 [.d (ints l), .d (ints h)] tok nt (.d (ints (byK l h l.length))) tok nt := by
 intro box nb
 refine sB Tryz.func243 Tryz.ntmps243 ?_
 intro hbox htok
 simp only at hbox htok
 apply AL.start
 try (simp)
 repeat (refine sR ?_; simp)
 refine ⟨by omega, ?_⟩
 try (simp)
 repeat (refine sR ?_; simp)
 refine sN ?_
 refine AL.loopT (stFw l h nb box tok nt) (fun i => i ≤ l.length) (fun i => l.length - i) 0 (Nat.zero_le _) (Weaks.mk (Nat.le_refl _) rfl (by simp [ToL, lk]) (by simp [BoxL, lk, folK, byK_zero])) ?_
 rintro i S hi hS
 simp only [stFw] at hS
 subst hS
 have hw := sW (i := i) (by omega)
 have hfl := folK_len l h hi
 try (simp)
 repeat (refine sR ?_; simp)
 refine sC ?_
 simp
 refine ⟨fun hlt => ?_, fun hge => ?_⟩
 ·obtain ⟨x0, x1⟩ := hr _ (List.getElem_mem hlt)
  have x2 : l[i].toNat < h.length := by omega
  have hst := folK_set l h hlt x2
  try (simp [hlt, x0, x1, x2, hfl, hw])
  repeat (refine sR ?_; simp [hlt, x0, x1, x2, hfl, hw])
  refine sE ?_
  exact ⟨i + 1, hlt, by omega, Weaks.mk (Nat.le_refl _) rfl (by simp [ToL, lk]) (by simp [BoxL, lk, hst])⟩
 ·refine sX ?_
  simp only [AU, ↓reduceIte]
  have : i = l.length := by omega
  subst this
  have hall : folK l h l.length = byK l h l.length := by simp [folK]
  rw [hall]
  have hbl : (byK l h l.length).length = l.length := byK_all l h
  refine AL.weak (Weaks.frz (l' := [(5, .d (ints (byK l h l.length)))]) (loc' := []) 10 1 (rI (byK l h l.length)) (Nat.le_refl _) rfl (by simp [lk, rowsI_eq]) (by simp [lk]) (by simp) (by simp [ToL, hbl]) (by simp [BoxL])) ?_
  try (simp)
  repeat (refine sR ?_; simp)
  refine sT ?_
  try simp only [AU]
  refine ⟨by simp, sF hbox htok (fun _ h => h) (Nat.le_refl _) ?_⟩
  simp [packA]
def stPp (F G A C : List Int) (n1 : Nat) (nb : Nat) (box : Bxs) (x : Acc) : AState :=
 ⟨tl [(13, I x.i), (12, I F.length), (9, .osl 2 ((prK n1 F G x.i).map fun p => [D.raw (.int .i64 p.1), D.raw (.int .i64 p.2)]) x.own), (0, .d (ints F)), (1, .d (ints G)), (2, .d (ints A)), (3, .d (ints C))], lb nb box [], x.tok, x.nt⟩
theorem ppairs_c (F G A C : List Int) (n1 : Nat) (hl : F.length = G.length) (hF : F.length ≤ 1000000) (h1 : ∀ x ∈ F, 0 ≤ x ∧ x < n1) (h2 : ∀ x ∈ G, 0 ≤ x ∧ x < C.length) (hA : A = iota n1) (hC : C = iotaF n1 C.length) (tok : Tks) (nt : Nat) :
  DCall Tryz.prog 204 [.d (ints F), .d (ints G), .d (ints A), .d (ints C)] tok nt (.d (prs (prK n1 F G F.length))) tok nt := by
 intro box nb
 refine sB Tryz.func204 Tryz.ntmps204 ?_
 intro hbox htok
 simp only at hbox htok
 apply AL.start
 try (simp)
 repeat (refine sR ?_; simp)
 refine sN ?_
 have Al : A.length = n1 := by rw [hA, iota_len]
 refine AL.loopT (stPp F G A C n1 nb box) (fun x => x.i ≤ F.length ∧ TK tok nt x.tok x.nt [x.own]) (fun x => F.length - x.i) ⟨0, .full, tok, nt⟩ ⟨Nat.zero_le _, (TK.start htok).full⟩ (Weaks.mk (Nat.le_refl _) rfl (by simp [ToL, lk, prK]) trivial) ?_
 rintro ⟨i, own, tok', nt'⟩ S ⟨hi, htk⟩ hS
 simp only [stPp] at hS hi htk
 subst hS
 have hw := sW (i := i) (by omega)
 have hpl := prK_len n1 F G i
 have hsc := prK_succ n1 F G i
 try (simp)
 repeat (refine sR ?_; simp)
 refine sC ?_
 simp
 refine ⟨fun hlt => ?_, fun hge => ?_⟩
 ·have hig : i < G.length := by omega
  have e1 : F.getD i 0 = F[i] := by simp [hlt]
  have e2 : G.getD i 0 = G[i] := by simp [hig]
  obtain ⟨a0, a1⟩ := h1 _ (List.getElem_mem hlt)
  obtain ⟨c0, c1⟩ := h2 _ (List.getElem_mem hig)
  have a2 : F[i].toNat < A.length := by omega
  have c2 : G[i].toNat < C.length := by omega
  have a3 : A[F[i].toNat] = F[i] := by
   have : A.getD F[i].toNat 0 = F[i].toNat := by rw [hA]; exact iota_getD (by omega)
   rw [List.getD_eq_getElem?_getD, List.getElem?_eq_getElem a2, Option.getD_some] at this
   omega
  have c3 : C[G[i].toNat] = (n1 : Int) + G[i] := by
   have : C.getD G[i].toNat 0 = ((n1 + G[i].toNat : Nat) : Int) := by rw [hC]; exact iotaF_get (by omega)
   rw [List.getD_eq_getElem?_getD, List.getElem?_eq_getElem c2, Option.getD_some] at this
   omega
  rw [e1, e2] at hsc
  rw [← Al] at a1
  try (simp [hlt, hig, a0, a1, a2, a3, c0, c1, c2, c3])
  repeat (refine sR ?_; simp [hlt, hig, a0, a1, a2, a3, c0, c1, c2, c3])
  refine ⟨⟨by omega, htk.live⟩, ?_⟩
  try (simp [hw])
  repeat (refine sR ?_; simp [hw])
  refine sE ?_
  exact ⟨⟨i + 1, _, _, _⟩, ⟨hlt, htk.app⟩, by simp only; omega, Weaks.mk htk.app.le rfl (by simp [ToL, lk, hsc]) trivial⟩
 ·refine sX ?_
  simp only [AU, ↓reduceIte]
  have : i = F.length := by omega
  subst this
  try (simp)
  repeat (refine sR ?_; simp)
  refine sT ?_
  try simp only [AU]
  refine ⟨by simp, sF hbox htok htk.old htk.le ?_⟩
  simp [packA, ]
def stU1 (b c : Gr) (nb : Nat) (box : Bxs) (tok : Tks) (nt : Nat) (i : Nat) : AState :=
 ⟨tl [(22, I i), (21, I 2), (20, .osl 2 [[ints b.nodes, AM.edges b.edges], [ints c.nodes, AM.edges c.edges]] .full), (7, I 0), (6, .ptr (nb + 6) 0 0), (5, .ptr (nb + 5) 0 0), (4, .ptr (nb + 4) 0 0), (3, .ptr (nb + 3) 0 0), (2, .ptr (nb + 2) 0 0)],
  lb nb box [(3, [[.d (ints c.nodes), .d (AM.edges c.edges)]]), (2, [[.d (ints b.nodes), .d (AM.edges b.edges)]]), (6, [[.bot, .bot]]), (5, [[.bot, .bot]]), (4, [[.bot, .bot]])], tok, nt⟩
def stU2 (b c : Gr) (N : List Int) (nb : Nat) (box : Bxs) (x : Acc) : AState :=
 ⟨tl [(71, I x.i), (70, I c.edges.length), (69, .d (AM.edges c.edges)), (13, .ptr (nb + 13) 0 0), (12, I b.edges.length), (11, I b.nodes.length), (6, .ptr (nb + 6) 0 0), (5, .ptr (nb + 5) 0 0), (4, .ptr (nb + 4) 0 0), (3, .ptr (nb + 3) 0 0)],
  lb nb box [(13, [[.d (ints N), .osl 3 (rE (unE b c x.i)) x.own]]), (3, [[.d (ints c.nodes), .d (AM.edges c.edges)]]), (6, [[.bot, .bot]]), (5, [[.bot, .bot]]), (4, [[.bot, .bot]])], x.tok, x.nt⟩
theorem union_c (b c : Gr) (hb : b.Fit) (hc : c.Fit) (vb : validG b = 0) (vc : validG c = 0) (tok : Tks) (nt : Nat) : DCall Tryz.prog 202 [b.av, c.av] tok nt
  (if 40 < b.nodes.length + c.nodes.length ∨ 80 < b.edges.length + c.edges.length then .tup [Gr.av ⟨[], []⟩, Mo.av ⟨[], []⟩, Mo.av ⟨[], []⟩, I 3]
   else .tup [(unG b c).av, (idM b).av, Mo.av ⟨iotaF b.nodes.length c.nodes.length, iotaF b.edges.length c.edges.length⟩, I 0]) tok nt := by
 intro box nb
 have hb1 := graphValid_c b hb
 have hc1 := graphValid_c c hc
 refine sB Tryz.func202 Tryz.ntmps202 ?_
 intro hbox htok
 simp only at hbox htok
 apply AL.start
 try (simp)
 repeat (refine sR ?_; simp)
 refine ⟨rfl, ?_⟩
 refine sN ?_
 refine AL.loopT (stU1 b c nb box tok nt) (fun i => i ≤ 2) mu13 0 (by omega) (Weaks.mk (Nat.le_refl _) rfl (by simp [ToL, lk]) (by simp [BoxL, lk])) ?_
 rintro i S hi hS
 simp only [stU1] at hS
 subst hS
 try (simp)
 repeat (refine sR ?_; simp)
 refine sC ?_
 simp
 have h012 : i = 0 ∨ i = 1 ∨ i = 2 := by omega
 rcases h012 with rfl | rfl | rfl
 ·simp
  try (simp)
  repeat (refine sR ?_; simp)
  refine Stop.of_d (hb1 _ _) ?_
  simp
  try (simp [vb])
  repeat (refine sR ?_; simp [vb])
  refine sC ?_
  simp
  try (simp [show IntKind.i64.wrap 1 = 1 from rfl])
  repeat (refine sR ?_; simp [show IntKind.i64.wrap 1 = 1 from rfl])
  refine sE ?_
  exact ⟨1, by omega, by decide, Weaks.mk (Nat.le_refl _) rfl (by simp [ToL, lk]) (by simp [BoxL, lk])⟩
 ·simp
  try (simp)
  repeat (refine sR ?_; simp)
  refine Stop.of_d (hc1 _ _) ?_
  simp
  try (simp [vc])
  repeat (refine sR ?_; simp [vc])
  refine sC ?_
  simp
  try (simp [show IntKind.i64.wrap 2 = 2 from rfl])
  repeat (refine sR ?_; simp [show IntKind.i64.wrap 2 = 2 from rfl])
  refine sE ?_
  exact ⟨2, by omega, by decide, Weaks.mk (Nat.le_refl _) rfl (by simp [ToL, lk]) (by simp [BoxL, lk])⟩
 ·simp
  refine sX ?_
  simp only [AU, ↓reduceIte]
  have hbn := hb.n
  have hbe := hb.e
  have hcn := hc.n
  have hce := hc.e
  have w1 : IntKind.i64.wrap (↑b.nodes.length + ↑c.nodes.length) = (b.nodes.length : Int) + c.nodes.length := wrap_in (by omega) (by omega)
  have w2 : IntKind.i64.wrap (↑b.edges.length + ↑c.edges.length) = (b.edges.length : Int) + c.edges.length := wrap_in (by omega) (by omega)
  have hcl := cloneE_c b.edges (by omega)
  by_cases h1 : (40 : Int) < (b.nodes.length : Int) + c.nodes.length
  ·have hcc : 40 < b.nodes.length + c.nodes.length ∨ 80 < b.edges.length + c.edges.length := .inl (by omega)
   try (simp [w1, h1])
   repeat (refine sR ?_; simp [w1, h1])
   refine sC ?_
   simp
   try (simp)
   repeat (refine sR ?_; simp)
   refine sT ?_
   try simp only [AU]
   refine ⟨by simp, sF hbox htok (fun _ h => h) (Nat.le_refl _) ?_⟩
   simp [packA, hcc, ints, AM.edges]
  ·by_cases h2 : (80 : Int) < (b.edges.length : Int) + c.edges.length
   ·have hcc : 40 < b.nodes.length + c.nodes.length ∨ 80 < b.edges.length + c.edges.length := .inr (by omega)
    try (simp [w1, h1, w2, h2])
    repeat (refine sR ?_; simp [w1, h1, w2, h2])
    refine sC ?_
    simp
    try (simp)
    repeat (refine sR ?_; simp)
    refine sT ?_
    try simp only [AU]
    refine ⟨by simp, sF hbox htok (fun _ h => h) (Nat.le_refl _) ?_⟩
    simp [packA, hcc, ints, AM.edges]
   ·have hcc : ¬ (40 < b.nodes.length + c.nodes.length ∨ 80 < b.edges.length + c.edges.length) := by omega
    try (simp [w1, h1, w2, h2])
    repeat (refine sR ?_; simp [w1, h1, w2, h2])
    refine sC ?_
    simp
    have hcat := concat2_c b.nodes c.nodes (by omega)
    have hcc2 : ¬ 40 < b.nodes.length + c.nodes.length := by omega
    have hcc3 : ¬ 80 < b.edges.length + c.edges.length := by omega
    obtain ⟨N, hN⟩ : ∃ N, b.nodes ++ c.nodes = N := ⟨_, rfl⟩
    rw [hN] at hcat
    have hu : unG b c = ⟨N, unE b c c.edges.length⟩ := by rw [← hN]; simp [unG, unE]
    try (simp)
    repeat (refine sR ?_; simp)
    refine ⟨rfl, ?_⟩
    refine Stop.data ?_
    refine Stop.of_d (hcat _ _) ?_
    simp
    try (simp)
    repeat (refine sR ?_; simp)
    refine Stop.of_d (hcl _ _) ?_
    simp
    try (simp)
    repeat (refine sR ?_; simp)
    refine sN ?_
    have htk := (TK.start htok).full.app
    refine AL.loopT (stU2 b c N nb box) (fun x => x.i ≤ c.edges.length ∧ TK tok nt x.tok x.nt [x.own]) (fun x => c.edges.length - x.i) ⟨0, _, _, _⟩ ⟨Nat.zero_le _, htk⟩ (Weaks.mk htk.le rfl (by simp [ToL, lk]) (by simp [BoxL, lk, unE])) ?_
    rintro ⟨i, o2, tok', nt'⟩ S ⟨hi, htk⟩ hS
    simp only [stU2] at hS hi htk
    subst hS
    have hw := sW (i := i) (by omega)
    have hul := unE_len b c i
    have hec := validG_edges vc
    try (simp)
    repeat (refine sR ?_; simp)
    refine sC ?_
    simp
    refine ⟨fun hlt => ?_, fun hge => ?_⟩
    ·have hus := unE_succ b c hlt
     obtain ⟨e1, e2, e3, e4⟩ := hec _ (List.getElem_mem hlt)
     have x1 : IntKind.i64.wrap (c.edges[i].fr + ↑b.nodes.length) = c.edges[i].fr + b.nodes.length := wrap_in (by omega) (by omega)
     have x2 : IntKind.i64.wrap (c.edges[i].to + ↑b.nodes.length) = c.edges[i].to + b.nodes.length := wrap_in (by omega) (by omega)
     try (simp [hlt, x1, x2])
     repeat (refine sR ?_; simp [hlt, x1, x2])
     refine ⟨⟨by omega, htk.live⟩, ?_⟩
     try (simp [hw])
     repeat (refine sR ?_; simp [hw])
     refine sE ?_
     exact ⟨⟨i + 1, _, _, _⟩, ⟨hlt, htk.app⟩, by simp only; omega, Weaks.mk htk.app.le rfl (by simp [ToL, lk]) (by simp [BoxL, lk, hus, shE])⟩
    ·refine sX ?_
     simp only [AU, ↓reduceIte]
     have : i = c.edges.length := by omega
     subst this
     have n1 : ∀ tok nt, DCall Tryz.prog 240 [I 0, I b.nodes.length] tok nt (.d (ints (iota b.nodes.length))) tok nt := by rw [← iotaF_iota]; exact gnumbers_c 0 b.nodes.length (by omega) (by omega)
     have n2 : ∀ tok nt, DCall Tryz.prog 240 [I 0, I b.edges.length] tok nt (.d (ints (iota b.edges.length))) tok nt := by rw [← iotaF_iota]; exact gnumbers_c 0 b.edges.length (by omega) (by omega)
     have n3 := gnumbers_c b.nodes.length c.nodes.length (by omega) (by omega)
     have n4 := gnumbers_c b.edges.length c.edges.length (by omega) (by omega)
     try (simp)
     repeat (refine sR ?_; simp)
     refine Stop.of_d (n1 _ _) ?_
     simp
     try (simp)
     repeat (refine sR ?_; simp)
     refine Stop.of_d (n2 _ _) ?_
     simp
     try (simp)
     repeat (refine sR ?_; simp)
     refine Stop.of_d (n3 _ _) ?_
     simp
     try (simp)
     repeat (refine sR ?_; simp)
     refine Stop.of_d (n4 _ _) ?_
     simp
     refine sN ?_
     refine AL.region2 follows_Tryz (Nat.le_refl _) (by kernel_rfl) (Side.of (by simp)) ?_
     simp
     refine sT ?_
     try simp only [AU]
     refine ⟨by simp, sF hbox htok htk.old htk.le ?_⟩
     simp [packA, hcc, hu, idM]
def stPq1 (a : Gr) (L1 L2 q1 q2 : List Int) (nb : Nat) (box : Bxs) (x : Acc) : AState :=
 ⟨tl [(64, I x.i), (63, I L1.length), (62, .d (ints L1)), (18, .ptr (nb + 18) 0 0), (15, .d (ints q2)), (12, .d (ints q1)), (11, .d (ints L2)), (7, .ptr (nb + 7) 0 0), (6, .ptr (nb + 6) 0 0), (3, .ptr (nb + 3) 0 0)],
  lb nb box [(18, [[.osl 1 (rI (repN a.nodes L1 x.i)) x.own, .osl 0 [] .full]]), (3, [[.d (ints a.nodes), .d (AM.edges a.edges)]]), (7, [[.bot, .bot]]), (6, [[.bot, .bot]])], x.tok, x.nt⟩
def stPq2 (a : Gr) (L1 L2 q1 q2 : List Int) (nb : Nat) (box : Bxs) (x : Acc) : AState :=
 ⟨tl [(85, I x.i), (84, I L2.length), (83, .d (ints L2)), (18, .ptr (nb + 18) 0 0), (15, .d (ints q2)), (12, .d (ints q1)), (7, .ptr (nb + 7) 0 0), (6, .ptr (nb + 6) 0 0), (3, .ptr (nb + 3) 0 0)],
  lb nb box [(18, [[.d (ints (repN a.nodes L1 L1.length)), .osl 3 (rE (repE a.edges q1 L2 x.i)) x.own]]), (3, [[.d (ints a.nodes), .d (AM.edges a.edges)]]), (7, [[.bot, .bot]]), (6, [[.bot, .bot]])], x.tok, x.nt⟩
theorem pquotient_c (a : Gr) (pn pe : List (Int × Int)) (L1 L2 : List Int) (ha : a.Fit) (g1 : ∀ tok nt, DCall Tryz.prog 241 [I a.nodes.length, .d (prs pn)] tok nt (.tup [.d (ints L1), I 0]) tok nt) (g2 : ∀ tok nt, DCall Tryz.prog 241 [I a.edges.length, .d (prs pe)] tok nt (.tup [.d (ints L2), I 0]) tok nt)
  (hl : L1.length = a.nodes.length) (hk : L2.length = a.edges.length) (h80 : a.nodes.length ≤ 80 ∧ a.edges.length ≤ 80) (hpl : PartL L1) (hpk : PartL L2) (hx : EOk a) (tok : Tks) (nt : Nat) :
  DCall Tryz.prog 203 [a.av, .d (prs pn), .d (prs pe)] tok nt (.tup [(quot a L1 L2).g.av, (quot a L1 L2).o.av, I 0]) tok nt := by
 intro box nb
 have q1 := quotient86_c L1 (by omega) hpl
 have q2 := quotient86_c L2 (by omega) hpk
 refine sB Tryz.func203 Tryz.ntmps203 ?_
 intro hbox htok
 simp only at hbox htok
 apply AL.start
 try (simp)
 repeat (refine sR ?_; simp)
 refine Stop.of_d (g1 _ _) ?_
 simp
 try (simp)
 repeat (refine sR ?_; simp)
 refine sC ?_
 simp
 try (simp)
 repeat (refine sR ?_; simp)
 refine Stop.of_d (g2 _ _) ?_
 simp
 try (simp)
 repeat (refine sR ?_; simp)
 refine sC ?_
 simp
 try (simp)
 repeat (refine sR ?_; simp)
 refine Stop.of_d (q1 _ _) ?_
 simp
 try (simp)
 repeat (refine sR ?_; simp)
 refine Stop.of_d (q2 _ _) ?_
 simp
 try (simp)
 repeat (refine sR ?_; simp)
 refine sN ?_
 have han := ha.n
 have hae := ha.e
 have hnl := numN_len L1 L1.length
 have hnk := numN_len L2 L2.length
 have hqt : quot a L1 L2 = ⟨⟨repN a.nodes L1 L1.length, repE a.edges (numN L1 L1.length).1 L2 L2.length⟩, ⟨(numN L1 L1.length).1, (numN L2 L2.length).1⟩⟩ := rfl
 rw [hqt]
 generalize (numN L1 L1.length).1 = q1n at *
 generalize (numN L2 L2.length).1 = q2n at *
 refine AL.loopT (stPq1 a L1 L2 q1n q2n nb box) (fun x => x.i ≤ L1.length ∧ TK tok nt x.tok x.nt [x.own]) (fun x => L1.length - x.i) ⟨0, .full, tok, nt⟩ ⟨Nat.zero_le _, (TK.start htok).full⟩ (Weaks.mk (Nat.le_refl _) rfl (by simp [ToL, lk]) (by simp [BoxL, lk, repN])) ?_
 rintro ⟨i, own, tok', nt'⟩ S ⟨hi, htk⟩ hS
 simp only [stPq1] at hS hi htk
 subst hS
 have hw := sW (i := i) (by omega)
 have hln := repN_len a.nodes L1 i
 try (simp)
 repeat (refine sR ?_; simp)
 refine sC ?_
 simp
 refine ⟨fun hlt => ?_, fun hge => ?_⟩
 ·have hlb : i < a.nodes.length := by omega
  try (simp [hlt])
  repeat (refine sR ?_; simp [hlt])
  refine sC ?_
  simp
  refine ⟨fun he => ?_, fun hne => ?_⟩
  ·try (simp [hlb])
   repeat (refine sR ?_; simp [hlb])
   refine ⟨⟨by omega, htk.live⟩, ?_⟩
   try (simp [hw])
   repeat (refine sR ?_; simp [hw])
   refine sE ?_
   exact ⟨⟨i + 1, _, _, _⟩, ⟨hlt, htk.app⟩, by simp only; omega, Weaks.mk htk.app.le rfl (by simp [ToL, lk]) (by simp [BoxL, lk, repN, hlt, hlb, he])⟩
  ·try (simp [hw])
   repeat (refine sR ?_; simp [hw])
   refine sE ?_
   exact ⟨⟨i + 1, own, tok', nt'⟩, ⟨hlt, htk⟩, by simp only; omega, Weaks.mk htk.le rfl (by simp [ToL, lk]) (by simp [BoxL, lk, repN, hlt, hlb, hne])⟩
 ·refine sX ?_
  simp only [AU, ↓reduceIte]
  have : i = L1.length := by omega
  subst this
  try (simp)
  repeat (refine sR ?_; simp)
  refine sN ?_
  have htk2 := htk.tail.full
  refine AL.loopT (stPq2 a L1 L2 q1n q2n nb box) (fun x => x.i ≤ L2.length ∧ TK tok nt x.tok x.nt [x.own]) (fun x => L2.length - x.i) ⟨0, .full, tok', nt'⟩ ⟨Nat.zero_le _, htk2⟩ (Weaks.mk htk2.le rfl (by simp [ToL, lk]) (by simp [BoxL, lk, repE])) ?_
  rintro ⟨i, own2, tok', nt'⟩ S ⟨hi, htk⟩ hS
  simp only [stPq2] at hS hi htk
  subst hS
  have hw := sW (i := i) (by omega)
  have hle := repE_len a.edges q1n L2 i
  try (simp)
  repeat (refine sR ?_; simp)
  refine sC ?_
  simp
  refine ⟨fun hlt => ?_, fun hge => ?_⟩
  ·have hlb : i < a.edges.length := by omega
   obtain ⟨x1, x2, x3, x4⟩ := hx _ (List.getElem_mem hlb)
   have hq1 : q1n.length = a.nodes.length := by omega
   have y1 : a.edges[i].fr.toNat < q1n.length := by omega
   have y2 : a.edges[i].to.toNat < q1n.length := by omega
   rw [← hq1] at x2 x4
   try (simp [hlt])
   repeat (refine sR ?_; simp [hlt])
   refine sC ?_
   simp
   refine ⟨fun he => ?_, fun hne => ?_⟩
   ·try (simp [hlb, x1, x2, x3, x4, y1, y2])
    repeat (refine sR ?_; simp [hlb, x1, x2, x3, x4, y1, y2])
    refine ⟨⟨by omega, htk.live⟩, ?_⟩
    try (simp [hw])
    repeat (refine sR ?_; simp [hw])
    refine sE ?_
    exact ⟨⟨i + 1, _, _, _⟩, ⟨hlt, htk.app⟩, by simp only; omega, Weaks.mk htk.app.le rfl (by simp [ToL, lk]) (by simp [BoxL, lk, repE, hlt, hlb, he, y1, y2])⟩
   ·try (simp [hw])
    repeat (refine sR ?_; simp [hw])
    refine sE ?_
    exact ⟨⟨i + 1, own2, tok', nt'⟩, ⟨hlt, htk⟩, by simp only; omega, Weaks.mk htk.le rfl (by simp [ToL, lk]) (by simp [BoxL, lk, repE, hlt, hlb, hne])⟩
  ·refine sX ?_
   simp only [AU, ↓reduceIte]
   have : i = L2.length := by omega
   subst this
   try (simp)
   repeat (refine sR ?_; simp)
   refine sT ?_
   try simp only [AU]
   refine ⟨by simp, sF hbox htok htk.old htk.le ?_⟩
   simp [packA, ]
end Go.AM
namespace Go.AM
open Go Go.Proofs
theorem pthen_c (m n : Mo) (hm : m.Fit) (hn : ∀ x ∈ m.nodes, 0 ≤ x ∧ x < n.nodes.length) (he : ∀ x ∈ m.edges, 0 ≤ x ∧ x < n.edges.length) (tok : Tks) (nt : Nat) : DCall Tryz.prog 205 [m.av, n.av] tok nt (thenM m n).av tok nt := by
 intro box nb
 have h1 := follow_c m.nodes n.nodes hm.n hn
 have h2 := follow_c m.edges n.edges hm.e he
 refine sB Tryz.func205 Tryz.ntmps205 ?_
 intro hbox htok
 simp only at hbox htok
 apply AL.start
 try (simp)
 repeat (refine sR ?_; simp)
 refine Stop.of_d (h1 _ _) ?_
 simp
 try (simp)
 repeat (refine sR ?_; simp)
 refine Stop.of_d (h2 _ _) ?_
 simp
 try (simp)
 repeat (refine sR ?_; simp)
 refine sT ?_
 try simp only [AU]
 refine ⟨by simp, sF hbox htok (fun _ h => h) (Nat.le_refl _) ?_⟩
 simp [packA, thenM]
theorem pspan_c (a b c : Gr) (f g : Mo) (ha : a.Fit) (hb : b.Fit) (hc : c.Fit) (hf : validM a b f = 0) (hg : validM a c g = 0) (tok : Tks) (nt : Nat) : DCall Tryz.prog 142 [spanAv a b c f g] tok nt (I 0) tok nt := by
 intro box nb
 have h1 := valid51_c a b f ha hb
 have h2 := valid51_c a c g ha hc
 rw [hf] at h1
 rw [hg] at h2
 refine sB Tryz.func142 Tryz.ntmps142 ?_
 intro hbox htok
 simp only at hbox htok
 apply AL.start
 try (simp)
 repeat (refine sR ?_; simp)
 refine Stop.of_d (h1 _ _) ?_
 simp
 try (simp)
 repeat (refine sR ?_; simp)
 refine sC ?_
 simp
 try (simp)
 repeat (refine sR ?_; simp)
 refine Stop.of_d (h2 _ _) ?_
 simp
 try (simp)
 repeat (refine sR ?_; simp)
 refine sT ?_
 try simp only [AU]
 refine ⟨by simp, sF hbox htok (fun _ h => h) (Nat.le_refl _) ?_⟩
 simp [packA]
theorem pglue_c (a b c : Gr) (f g : Mo) (hf : Emb a b f) (hg : Emb a c g) (tok : Tks) (nt : Nat) :
  DCall Tryz.prog 143 [spanAv a b c f g] tok nt (.tup [(pushR b c f g).1.g.av, (pushR b c f g).1.l.av, (pushR b c f g).1.r.av, I (pushR b c f g).2]) tok nt := by
 intro box nb
 obtain ⟨ff, fa, fb⟩ := hf.fit
 obtain ⟨fg, _, fc⟩ := hg.fit
 have v := hf.vm
 have w := hg.vm
 have hun := union_c b c fb fc v.vb w.vb
 refine sB Tryz.func143 Tryz.ntmps143 ?_
 intro hbox htok
 simp only at hbox htok
 apply AL.start
 try (simp)
 repeat (refine sR ?_; simp)
 refine Stop.of_d (hun _ _) ?_
 simp
 by_cases hb : poBig b c
 ·have hb' : 40 < b.nodes.length + c.nodes.length ∨ 80 < b.edges.length + c.edges.length := hb
  have hR : pushR b c f g = (⟨⟨[], []⟩, ⟨[], []⟩, ⟨[], []⟩⟩, 3) := if_pos hb
  rw [if_pos hb']
  try (simp)
  repeat (refine sR ?_; simp)
  refine sC ?_
  simp
  try (simp)
  repeat (refine sR ?_; simp)
  refine sT ?_
  try simp only [AU]
  refine ⟨by simp, sF hbox htok (fun _ h => h) (Nat.le_refl _) ?_⟩
  simp [packA, hR, ints, AM.edges]
 ·have hb' : ¬ (40 < b.nodes.length + c.nodes.length ∨ 80 < b.edges.length + c.edges.length) := hb
  have hR : pushR b c f g = (pushO b c f g, 0) := if_neg hb
  rw [if_neg hb']
  have hp := spn_pair hf hg
  obtain ⟨rl1, rl2, rl3⟩ := pushO_r hp
  have mn := mt_n hf hg
  have me := mt_e hf hg
  have p1 := ppairs_c f.nodes g.nodes (iota b.nodes.length) (iotaF b.nodes.length c.nodes.length) b.nodes.length mn.l ff.n v.n (by rw [iotaF_len]; exact w.n) rfl (by rw [iotaF_len])
  have p2 := ppairs_c f.edges g.edges (iota b.edges.length) (iotaF b.edges.length c.edges.length) b.edges.length me.l ff.e v.e (by rw [iotaF_len]; exact w.e) rfl (by rw [iotaF_len])
  have hfit := unG_fit hb'
  have ln : (unG b c).nodes.length = b.nodes.length + c.nodes.length := by simp [unG]
  have le : (unG b c).edges.length = b.edges.length + c.edges.length := by simp [unG]
  have g1 := generateP_c b.nodes.length c.nodes.length f.nodes g.nodes mn (by omega)
  have g2 := generateP_c b.edges.length c.edges.length f.edges g.edges me (by omega)
  rw [← ln] at g1
  rw [← le] at g2
  have q := pquotient_c (unG b c) _ _ _ _ hfit g1 g2 (by rw [genX_len, mtI_len, ln]) (by rw [genX_len, mtI_len, le]) (by omega) (genX_part (isM_in hp.1)) (genX_part (isM_in hp.2)) (unG_ok (validG_edges v.vb) (validG_edges w.vb))
  rw [quot_glue (validG_edges v.vb) (validG_edges w.vb) hp] at q
  have hpo : glue b c (mtI f.nodes g.nodes c.nodes.length) (mtI f.edges g.edges c.edges.length) = pushO b c f g := rfl
  rw [hpo] at q
  have e3 : thenM (idM b) ⟨iota b.nodes.length ++ (pushO b c f g).r.nodes, iota b.edges.length ++ (pushO b c f g).r.edges⟩ = idM b := by simp only [thenM, idM, byK_lo]
  have e4 : thenM ⟨iotaF b.nodes.length c.nodes.length, iotaF b.edges.length c.edges.length⟩ ⟨iota b.nodes.length ++ (pushO b c f g).r.nodes, iota b.edges.length ++ (pushO b c f g).r.edges⟩ = (pushO b c f g).r := by
   simp only [thenM]
   rw [← rl1, ← rl2, byK_hi, byK_hi]
  have i1 : ∀ (n : Nat) (r : List Int), ∀ x ∈ iota n, 0 ≤ x ∧ x < (iota n ++ r).length := fun n r x hx => by
   obtain ⟨j, hj, rfl⟩ := mem_getD hx
   rw [iota_len] at hj
   rw [iota_getD hj, List.length_append, iota_len]
   omega
  have i2 : ∀ (n k : Nat) (r : List Int), r.length = k → ∀ x ∈ iotaF n k, 0 ≤ x ∧ x < (iota n ++ r).length := fun n k r hr x hx => by
   obtain ⟨j, hj, rfl⟩ := mem_getD hx
   rw [iotaF_len] at hj
   rw [iotaF_get hj, List.length_append, iota_len]
   omega
  have t3 := pthen_c (idM b) ⟨iota b.nodes.length ++ (pushO b c f g).r.nodes, iota b.edges.length ++ (pushO b c f g).r.edges⟩ ⟨by simp only [idM, iota_len]; exact fb.n, by simp only [idM, iota_len]; exact fb.e⟩ (i1 _ _) (i1 _ _)
  have t4 := pthen_c ⟨iotaF b.nodes.length c.nodes.length, iotaF b.edges.length c.edges.length⟩ ⟨iota b.nodes.length ++ (pushO b c f g).r.nodes, iota b.edges.length ++ (pushO b c f g).r.edges⟩ ⟨by simp only [iotaF_len]; exact fc.n, by simp only [iotaF_len]; exact fc.e⟩ (i2 _ _ _ rl1) (i2 _ _ _ rl2)
  rw [e3] at t3
  rw [e4] at t4
  rw [hR]
  simp only
  rw [rl3]
  have hid : idM b = ⟨iota b.nodes.length, iota b.edges.length⟩ := rfl
  rw [hid] at t3 ⊢
  generalize pushO b c f g = o at *
  generalize unG b c = u at *
  generalize (⟨iota b.nodes.length ++ o.r.nodes, iota b.edges.length ++ o.r.edges⟩ : Mo) = qq at *
  generalize prK b.nodes.length f.nodes g.nodes f.nodes.length = r1 at *
  generalize prK b.edges.length f.edges g.edges f.edges.length = r2 at *
  generalize iotaF b.nodes.length c.nodes.length = j1 at *
  generalize iotaF b.edges.length c.edges.length = j2 at *
  generalize iota b.nodes.length = k1 at *
  generalize iota b.edges.length = k2 at *
  try (simp)
  repeat (refine sR ?_; simp)
  refine sC ?_
  simp
  try (simp)
  repeat (refine sR ?_; simp)
  refine Stop.of_d (p1 _ _) ?_
  simp
  try (simp)
  repeat (refine sR ?_; simp)
  refine Stop.of_d (p2 _ _) ?_
  simp
  try (simp)
  repeat (refine sR ?_; simp)
  refine Stop.of_d (q _ _) ?_
  simp
  try (simp)
  repeat (refine sR ?_; simp)
  refine sC ?_
  simp
  try (simp)
  repeat (refine sR ?_; simp)
  refine Stop.of_d (t3 _ _) ?_
  simp
  try (simp)
  repeat (refine sR ?_; simp)
  refine Stop.of_d (t4 _ _) ?_
  simp
  try (simp)
  repeat (refine sR ?_; simp)
  refine sT ?_
  try simp only [AU]
  refine ⟨by simp, sF hbox htok (fun _ h => h) (Nat.le_refl _) ?_⟩
  simp [packA]
theorem pushP_c (a b c : Gr) (f g : Mo) (hf : Emb a b f) (hg : Emb a c g) (tok : Tks) (nt : Nat) :
  DCall Tryz.prog 81 [spanAv a b c f g] tok nt (.tup [(pushR b c f g).1.g.av, (pushR b c f g).1.l.av, (pushR b c f g).1.r.av, I (pushR b c f g).2]) tok nt := by
 intro box nb
 obtain ⟨ff, fa, fb⟩ := hf.fit
 obtain ⟨fg, _, fc⟩ := hg.fit
 have h1 := pspan_c a b c f g fa fb fc hf.v hg.v
 have h2 := pglue_c a b c f g hf hg
 refine sB Tryz.func81 Tryz.ntmps81 ?_
 intro hbox htok
 simp only at hbox htok
 apply AL.start
 try (simp)
 repeat (refine sR ?_; simp)
 refine Stop.of_d (h1 _ _) ?_
 simp
 try (simp)
 repeat (refine sR ?_; simp)
 refine sC ?_
 simp
 try (simp)
 repeat (refine sR ?_; simp)
 refine Stop.of_d (h2 _ _) ?_
 simp
 try (simp)
 repeat (refine sR ?_; simp)
 refine sT ?_
 try simp only [AU]
 refine ⟨by simp, sF hbox htok (fun _ h => h) (Nat.le_refl _) ?_⟩
 simp [packA]
end Go.AM
namespace Go.AM
open Go Go.Proofs
theorem yes_c (tok : Tks) (nt : Nat) : DCall Tryz.prog 59 [] tok nt (cdOf 1 []).av tok nt := by
 intro box nb
 refine sB Tryz.func59 Tryz.ntmps59 ?_
 intro hbox htok
 simp only at hbox htok
 apply AL.start
 try (simp)
 repeat (refine sR ?_; simp)
 refine sT ?_
 try simp only [AU]
 refine ⟨by simp, sF hbox htok (fun _ h => h) (Nat.le_refl _) ?_⟩
 simp [packA, cdOf, Cd.kind, Cd.kids, Cd.m, Cd.g, Cd.sl, Cd.vars, Cd.te, conds, ints, AM.edges, slots, tests]
theorem no_c (tok : Tks) (nt : Nat) : DCall Tryz.prog 132 [] tok nt noC.av tok nt := by
 intro box nb
 have h := yes_c
 refine sB Tryz.func132 Tryz.ntmps132 ?_
 intro hbox htok
 simp only at hbox htok
 apply AL.start
 try (simp)
 repeat (refine sR ?_; simp)
 refine Stop.of_d (h _ _) ?_
 simp
 try (simp)
 repeat (refine sR ?_; simp)
 refine sT ?_
 try simp only [AU]
 refine ⟨by simp, sF hbox htok (fun _ h => h) (Nat.le_refl _) ?_⟩
 simp [packA, noC, Cd.cells, Cd.rows, cdOf, Cd.kind, Cd.kids, Cd.m, Cd.g, Cd.sl, Cd.vars, Cd.te, conds, ints, AM.edges, slots, tests]
theorem tof_c (r : Ru) (tok : Tks) (nt : Nat) : DCall Tryz.prog 43 [r.av] tok nt (spAv r.sp) tok nt := by
 intro box nb
 refine sB Tryz.func43 Tryz.ntmps43 ?_
 intro hbox htok
 simp only at hbox htok
 apply AL.start
 try (simp)
 repeat (refine sR ?_; simp)
 refine sT ?_
 try simp only [AU]
 refine ⟨by simp, sF hbox htok (fun _ h => h) (Nat.le_refl _) ?_⟩
 simp [packA, Ru.sp]
def stAt (l images : List Int) (nb : Nat) (box : Bxs) (x : Acc) : AState := ⟨tl [(11, I x.i), (10, I images.length), (9, .d (ints images)), (0, .d (ints l)), (5, .osl 1 (rI (mapK (indexI l) images x.i)) x.own)], lb nb box [], x.tok, x.nt⟩
theorem at_c (l images : List Int) (h1 : l.length ≤ 1000000) (h2 : images.length ≤ 1000000) (tok : Tks) (nt : Nat) : DCall Tryz.prog 216 [.d (ints l), .d (ints images)] tok nt (.d (ints (images.map (indexI l)))) tok nt := by
 rw [← mapK_all]
 intro box nb
 have hh := fun v => index_c l v h1
 refine sB Tryz.func216 Tryz.ntmps216 ?_
 intro hbox htok
 simp only at hbox htok
 apply AL.start
 try (simp)
 repeat (refine sR ?_; simp)
 refine sN ?_
 refine AL.loopT (stAt l images nb box) (fun x => x.i ≤ images.length ∧ TK tok nt x.tok x.nt [x.own]) (fun x => images.length - x.i) ⟨0, .full, tok, nt⟩ ⟨Nat.zero_le _, (TK.start htok).full⟩ (Weaks.mk (Nat.le_refl _) rfl (by simp [ToL, lk, mapK_zero]) trivial) ?_
 rintro ⟨i, own, tok', nt'⟩ S ⟨hi, htk⟩ hS
 simp only [stAt] at hS hi htk
 subst hS
 have hw := sW (i := i) (by omega)
 have hlen := mapK_len (indexI l) images i
 try (simp)
 repeat (refine sR ?_; simp)
 refine sC ?_
 simp
 refine ⟨fun hlt => ?_, fun hge => ?_⟩
 ·have hsc := mapK_succ (indexI l) images hlt
  try (simp [hlt])
  repeat (refine sR ?_; simp [hlt])
  refine Stop.of_d (hh _ _ _) ?_
  simp
  try (simp)
  repeat (refine sR ?_; simp)
  refine ⟨⟨by omega, htk.live⟩, ?_⟩
  try (simp [hw])
  repeat (refine sR ?_; simp [hw])
  refine sE ?_
  exact ⟨⟨i + 1, _, _, _⟩, ⟨hlt, htk.app⟩, by simp only; omega, Weaks.mk htk.app.le rfl (by simp [ToL, lk, hsc]) trivial⟩
 ·refine sX ?_
  simp only [AU, ↓reduceIte]
  have : i = images.length := by omega
  subst this
  try (simp)
  repeat (refine sR ?_; simp)
  refine sT ?_
  try simp only [AU]
  refine ⟨by simp, sF hbox htok htk.old htk.le ?_⟩
  simp [packA, ]
def stPk (l which : List Int) (nb : Nat) (box : Bxs) (x : Acc) : AState := ⟨tl [(11, I x.i), (10, I which.length), (9, .d (ints which)), (0, .d (ints l)), (5, .osl 1 (rI (byK which l x.i)) x.own)], lb nb box [], x.tok, x.nt⟩
theorem picked_c (l which : List Int) (h2 : which.length ≤ 1000000) (hr : ∀ x ∈ which, 0 ≤ x ∧ x < l.length) (tok : Tks) (nt : Nat) : DCall Tryz.prog 217 [.d (ints l), .d (ints which)] tok nt (.d (ints (byK which l which.length))) tok nt := by
 intro box nb
 refine sB Tryz.func217 Tryz.ntmps217 ?_
 intro hbox htok
 simp only at hbox htok
 apply AL.start
 try (simp)
 repeat (refine sR ?_; simp)
 refine sN ?_
 refine AL.loopT (stPk l which nb box) (fun x => x.i ≤ which.length ∧ TK tok nt x.tok x.nt [x.own]) (fun x => which.length - x.i) ⟨0, .full, tok, nt⟩ ⟨Nat.zero_le _, (TK.start htok).full⟩ (Weaks.mk (Nat.le_refl _) rfl (by simp [ToL, lk, byK_zero]) trivial) ?_
 rintro ⟨i, own, tok', nt'⟩ S ⟨hi, htk⟩ hS
 simp only [stPk] at hS hi htk
 subst hS
 have hw := sW (i := i) (by omega)
 try (simp)
 repeat (refine sR ?_; simp)
 refine sC ?_
 simp
 refine ⟨fun hlt => ?_, fun hge => ?_⟩
 ·obtain ⟨x0, x1⟩ := hr _ (List.getElem_mem hlt)
  have x2 : which[i].toNat < l.length := by omega
  try (simp [hlt, x0, x1, x2])
  repeat (refine sR ?_; simp [hlt, x0, x1, x2])
  refine ⟨⟨by omega, htk.live⟩, ?_⟩
  try (simp [hw])
  repeat (refine sR ?_; simp [hw])
  refine sE ?_
  exact ⟨⟨i + 1, _, _, _⟩, ⟨hlt, htk.app⟩, by simp only; omega, Weaks.mk htk.app.le rfl (by simp [ToL, lk, byK_succ which l hlt, x2]) trivial⟩
 ·refine sX ?_
  simp only [AU, ↓reduceIte]
  have : i = which.length := by omega
  subst this
  try (simp)
  repeat (refine sR ?_; simp)
  refine sT ?_
  try simp only [AU]
  refine ⟨by simp, sF hbox htok htk.old htk.le ?_⟩
  simp [packA, ]
def stBk (part into keep : List Int) (nb : Nat) (box : Bxs) (x : Acc) : AState := ⟨tl [(13, I x.i), (12, I part.length), (11, .d (ints part)), (1, .d (ints into)), (2, .d (ints keep)), (7, .osl 1 (rI (byK (part.map (indexI into)) keep x.i)) x.own)], lb nb box [], x.tok, x.nt⟩
theorem backwards_c (part into keep : List Int) (h1 : part.length ≤ 1000000) (h2 : into.length ≤ 1000000) (hs : ∀ x ∈ part, x ∈ into) (hk : into.length ≤ keep.length) (tok : Tks) (nt : Nat) :
  DCall Tryz.prog 127 [.d (ints part), .d (ints into), .d (ints keep)] tok nt (.d (ints (byK (part.map (indexI into)) keep (part.map (indexI into)).length))) tok nt := by
 intro box nb
 have hh := fun v => index_c into v h2
 refine sB Tryz.func127 Tryz.ntmps127 ?_
 intro hbox htok
 simp only at hbox htok
 apply AL.start
 try (simp)
 repeat (refine sR ?_; simp)
 refine sN ?_
 refine AL.loopT (stBk part into keep nb box) (fun x => x.i ≤ part.length ∧ TK tok nt x.tok x.nt [x.own]) (fun x => part.length - x.i) ⟨0, .full, tok, nt⟩ ⟨Nat.zero_le _, (TK.start htok).full⟩ (Weaks.mk (Nat.le_refl _) rfl (by simp [ToL, lk, byK_zero]) trivial) ?_
 rintro ⟨i, own, tok', nt'⟩ S ⟨hi, htk⟩ hS
 simp only [stBk] at hS hi htk
 subst hS
 have hw := sW (i := i) (by omega)
 try (simp)
 repeat (refine sR ?_; simp)
 refine sC ?_
 simp
 refine ⟨fun hlt => ?_, fun hge => ?_⟩
 ·obtain ⟨x0, x1⟩ := mem_indexI hs i hlt
  have x2 : (indexI into part[i]).toNat < keep.length := by omega
  have x3 : indexI into part[i] < keep.length := by omega
  have hsc := byK_succ (part.map (indexI into)) keep (i := i) (by simpa using hlt)
  rw [List.getElem_map] at hsc
  try (simp [hlt])
  repeat (refine sR ?_; simp [hlt])
  refine Stop.of_d (hh _ _ _) ?_
  simp
  try (simp [x0, x2, x3])
  repeat (refine sR ?_; simp [x0, x2, x3])
  refine ⟨⟨by omega, htk.live⟩, ?_⟩
  try (simp [hw])
  repeat (refine sR ?_; simp [hw])
  refine sE ?_
  exact ⟨⟨i + 1, _, _, _⟩, ⟨hlt, htk.app⟩, by simp only; omega, Weaks.mk htk.app.le rfl (by simp [ToL, lk, hsc, x2]) trivial⟩
 ·refine sX ?_
  simp only [AU, ↓reduceIte]
  have : i = part.length := by omega
  subst this
  try (simp)
  repeat (refine sR ?_; simp)
  refine sT ?_
  try simp only [AU]
  refine ⟨by simp, sF hbox htok htk.old htk.le ?_⟩
  simp [packA, ]
def stSt (r : Ru) (nb : Nat) (box : Bxs) (tok : Tks) (nt : Nat) (i : Nat) : AState :=
 ⟨tl [(72, I i), (71, I 2), (70, .osl 5 [[ints r.lg.nodes, AM.edges r.lg.edges, slots r.lsl, .raw (.int .i64 r.lv), tests r.lte], [ints r.rg.nodes, AM.edges r.rg.edges, slots r.rsl, .raw (.int .i64 r.rv), tests r.rte]] .full), (1, .ptr (nb + 1) 0 0)], lb nb box [(1, [r.row])], tok, nt⟩
theorem structural_c (r : Ru) (hr : r.Fit) (tok : Tks) (nt : Nat) : DCall Tryz.prog 41 [r.av] tok nt (I (strR r)) tok nt := by
 intro box nb
 have h1 := graphValid_c r.lg hr.lg
 have h2 := graphValid_c r.rg hr.rg
 have h3 := validP_c r.lg r.k hr.lg hr.k
 have h4 := fun h => extractP_c r.lg r.k hr.lg hr.k h
 have h5 := fun h => valid51_c (exG r.lg r.k) r.rg r.i h hr.rg
 have h6 := fun h => injective56_c (exG r.lg r.k) r.rg r.i h hr.rg hr.i
 refine sB Tryz.func41 Tryz.ntmps41 ?_
 intro hbox htok
 simp only at hbox htok
 apply AL.start
 try (simp)
 repeat (refine sR ?_; simp)
 refine Stop.of_d (h1 _ _) ?_
 simp
 try (simp)
 repeat (refine sR ?_; simp)
 by_cases e1 : validG r.lg = 0
 ·simp only [e1]
  refine sC ?_
  simp
  try (simp)
  repeat (refine sR ?_; simp)
  refine Stop.of_d (h2 _ _) ?_
  simp
  try (simp)
  repeat (refine sR ?_; simp)
  by_cases e2 : validG r.rg = 0
  ·simp only [e2]
   refine sC ?_
   simp
   try (simp)
   repeat (refine sR ?_; simp)
   refine Stop.of_d (h3 _ _) ?_
   simp
   try (simp)
   repeat (refine sR ?_; simp)
   by_cases e3 : validP r.lg r.k = 0
   ·simp only [e3]
    refine sC ?_
    simp
    try (simp)
    repeat (refine sR ?_; simp)
    have hp := VP.of e3
    have hx := hp.emb.fit.2.1
    refine Stop.of_d (h4 hp _ _) ?_
    simp
    try (simp)
    repeat (refine sR ?_; simp)
    refine sC ?_
    simp
    try (simp)
    repeat (refine sR ?_; simp)
    refine Stop.of_d (h5 hx _ _) ?_
    simp
    try (simp)
    repeat (refine sR ?_; simp)
    by_cases e4 : validM (exG r.lg r.k) r.rg r.i = 0
    ·simp only [e4]
     refine sC ?_
     simp
     try (simp)
     repeat (refine sR ?_; simp)
     refine Stop.of_d (h6 hx _ _) ?_
     simp
     try (simp)
     repeat (refine sR ?_; simp)
     cases e5 : injM (exG r.lg r.k) r.rg r.i
     ·refine sC ?_
      simp
      try (simp)
      repeat (refine sR ?_; simp)
      refine sT ?_
      try simp only [AU]
      refine ⟨by simp, sF hbox htok (fun _ h => h) (Nat.le_refl _) ?_⟩
      simp [packA, strR, e1, e2, e3, e4, e5]
     ·refine sC ?_
      simp
      try (simp)
      repeat (refine sR ?_; simp)
      have hls := hr.ls
      have hlt := hr.lt
      have hrs := hr.rs
      have hrt := hr.rt
      rw [bigN_eq] at hls hlt hrs hrt
      have w1 : IntKind.i64.wrap ((r.lsl.length : Int) + r.lte.length) = ((r.lsl.length + r.lte.length : Nat) : Int) := by rw [wrap_in (by omega) (by omega)]; omega
      have w2 : IntKind.i64.wrap ((r.rsl.length : Int) + r.rte.length) = ((r.rsl.length + r.rte.length : Nat) : Int) := by rw [wrap_in (by omega) (by omega)]; omega
      refine ⟨rfl, ?_⟩
      try (simp)
      repeat (refine sR ?_; simp)
      refine sN ?_
      refine AL.loopT (stSt r nb box tok nt) (fun i => i ≤ 2 ∧ (1 ≤ i → r.plainL) ∧ (2 ≤ i → r.plainR)) (fun i => 2 - i) 0 ⟨by omega, by omega, by omega⟩ (Weaks.mk (Nat.le_refl _) rfl (by simp [ToL, lk]) (by simp [BoxL, lk])) ?_
      rintro i S ⟨hi, hpl, hpr⟩ hS
      simp only [stSt] at hS
      subst hS
      obtain rfl | rfl | rfl : i = 0 ∨ i = 1 ∨ i = 2 := by omega
      ·have hw : IntKind.i64.wrap 1 = 1 := rfl
       try (simp)
       repeat (refine sR ?_; simp)
       refine sC ?_
       simp
       by_cases s1 : (0 : Int) < (r.lsl.length : Int) + r.lte.length
       ·have hne : ¬ r.plainL := fun h => by have := h.1; omega
        try (simp [w1, s1])
        repeat (refine sR ?_; simp [w1, s1])
        refine sC ?_
        simp
        try (simp)
        repeat (refine sR ?_; simp)
        refine sT ?_
        try simp only [AU]
        refine ⟨by simp, sF hbox htok (fun _ h => h) (Nat.le_refl _) ?_⟩
        simp [packA, strR, e1, e2, e3, e4, e5, hne]
       ·by_cases s2 : r.lv = 0
        ·have hyes : r.plainL := ⟨by omega, s2⟩
         have b2 : (r.lv != 0) = false := by simp [s2]
         try (simp [w1, s1, b2])
         repeat (refine sR ?_; simp [w1, s1, b2])
         refine sC ?_
         simp
         try (simp [hw])
         repeat (refine sR ?_; simp [hw])
         refine sE ?_
         exact ⟨1, ⟨by omega, fun _ => hyes, by omega⟩, by omega, Weaks.mk (Nat.le_refl _) rfl (by simp [ToL, lk]) (by simp [BoxL, lk])⟩
        ·have hne : ¬ r.plainL := fun h => s2 h.2
         have b2 : (r.lv != 0) = true := by simp [s2]
         try (simp [w1, s1, b2])
         repeat (refine sR ?_; simp [w1, s1, b2])
         refine sC ?_
         simp
         try (simp)
         repeat (refine sR ?_; simp)
         refine sT ?_
         try simp only [AU]
         refine ⟨by simp, sF hbox htok (fun _ h => h) (Nat.le_refl _) ?_⟩
         simp [packA, strR, e1, e2, e3, e4, e5, hne]
      ·have hw : IntKind.i64.wrap 2 = 2 := rfl
       have hl := hpl (by omega)
       try (simp)
       repeat (refine sR ?_; simp)
       refine sC ?_
       simp
       by_cases s1 : (0 : Int) < (r.rsl.length : Int) + r.rte.length
       ·have hne : ¬ r.plainR := fun h => by have := h.1; omega
        try (simp [w2, s1])
        repeat (refine sR ?_; simp [w2, s1])
        refine sC ?_
        simp
        try (simp)
        repeat (refine sR ?_; simp)
        refine sT ?_
        try simp only [AU]
        refine ⟨by simp, sF hbox htok (fun _ h => h) (Nat.le_refl _) ?_⟩
        simp [packA, strR, e1, e2, e3, e4, e5, hne]
       ·by_cases s2 : r.rv = 0
        ·have hyes : r.plainR := ⟨by omega, s2⟩
         have b2 : (r.rv != 0) = false := by simp [s2]
         try (simp [w2, s1, b2])
         repeat (refine sR ?_; simp [w2, s1, b2])
         refine sC ?_
         simp
         try (simp [hw])
         repeat (refine sR ?_; simp [hw])
         refine sE ?_
         exact ⟨2, ⟨by omega, fun _ => hl, fun _ => hyes⟩, by omega, Weaks.mk (Nat.le_refl _) rfl (by simp [ToL, lk]) (by simp [BoxL, lk])⟩
        ·have hne : ¬ r.plainR := fun h => s2 h.2
         have b2 : (r.rv != 0) = true := by simp [s2]
         try (simp [w2, s1, b2])
         repeat (refine sR ?_; simp [w2, s1, b2])
         refine sC ?_
         simp
         try (simp)
         repeat (refine sR ?_; simp)
         refine sT ?_
         try simp only [AU]
         refine ⟨by simp, sF hbox htok (fun _ h => h) (Nat.le_refl _) ?_⟩
         simp [packA, strR, e1, e2, e3, e4, e5, hne]
      ·have hl := hpl (by omega)
       have hr2 := hpr (by omega)
       try (simp)
       repeat (refine sR ?_; simp)
       refine sC ?_
       simp
       refine sX ?_
       simp only [AU, ↓reduceIte]
       try (simp)
       repeat (refine sR ?_; simp)
       cases hin : r.inj
       ·refine sC ?_
        simp
        try (simp)
        repeat (refine sR ?_; simp)
        refine sT ?_
        try simp only [AU]
        refine ⟨by simp, sF hbox htok (fun _ h => h) (Nat.le_refl _) ?_⟩
        simp [packA, strR, e1, e2, e3, e4, e5, hl, hr2, hin]
       ·refine sC ?_
        simp
        try (simp)
        repeat (refine sR ?_; simp)
        refine sT ?_
        try simp only [AU]
        refine ⟨by simp, sF hbox htok (fun _ h => h) (Nat.le_refl _) ?_⟩
        simp [packA, strR, e1, e2, e3, e4, e5, hl, hr2, hin]
    ·have b4 : (validM (exG r.lg r.k) r.rg r.i != 0) = true := by simp [e4]
     simp only [b4]
     refine sC ?_
     simp
     try (simp)
     repeat (refine sR ?_; simp)
     refine sT ?_
     try simp only [AU]
     refine ⟨by simp, sF hbox htok (fun _ h => h) (Nat.le_refl _) ?_⟩
     simp [packA, strR, e1, e2, e3, e4]
   ·have b3 : (validP r.lg r.k != 0) = true := by simp [e3]
    simp only [b3]
    refine sC ?_
    simp
    try (simp)
    repeat (refine sR ?_; simp)
    refine sT ?_
    try simp only [AU]
    refine ⟨by simp, sF hbox htok (fun _ h => h) (Nat.le_refl _) ?_⟩
    simp [packA, strR, e1, e2, e3]
  ·have b2 : (validG r.rg != 0) = true := by simp [e2]
   simp only [b2]
   refine sC ?_
   simp
   try (simp)
   repeat (refine sR ?_; simp)
   refine sT ?_
   try simp only [AU]
   refine ⟨by simp, sF hbox htok (fun _ h => h) (Nat.le_refl _) ?_⟩
   simp [packA, strR, e1, e2]
 ·have b1 : (validG r.lg != 0) = true := by simp [e1]
  simp only [b1]
  refine sC ?_
  simp
  try (simp)
  repeat (refine sR ?_; simp)
  refine sT ?_
  try simp only [AU]
  refine ⟨by simp, sF hbox htok (fun _ h => h) (Nat.le_refl _) ?_⟩
  simp [packA, strR, e1]
end Go.AM
namespace Go.AM
open Go Go.Proofs
theorem sortI_asc {l : List Int} {n : Nat} (hn : l.Nodup) (hr : ∀ x ∈ l, 0 ≤ x ∧ x < n) : sortI l = ascL l n := by
 have hp : (sortI l).Perm l := List.mergeSort_perm _ _
 have hs : (sortI l).Pairwise fun a b => (decide (a ≤ b)) = true := List.pairwise_mergeSort (fun a b c h1 h2 => by simp only [decide_eq_true_eq] at *; omega) (fun a b => by simp only [Bool.or_eq_true, decide_eq_true_eq]; omega) l
 have hd : (sortI l).Nodup := hp.nodup_iff.2 hn
 refine pw_ext (List.Pairwise.imp₂ (fun a b h1 h2 => ?_) hs hd) (ascL_pw _ _) fun x => ?_
 ·simp only [decide_eq_true_eq] at h1
  have : a ≠ b := h2
  omega
 ·rw [hp.mem_iff, ascL_mem]
  exact ⟨fun h => ⟨h, hr x h⟩, fun h => h.1⟩
theorem imgP_sort {a y : Gr} {q : Mo} (hq : Emb a y q) : (imgP y q) = ⟨sortI q.nodes, sortI q.edges⟩ := by
 have v := hq.vm
 rw [imgP, sortI_asc hq.n v.n, sortI_asc hq.e v.e]
theorem SpOk.fit {s : Sp} (h : SpOk s) : s.l.Fit ∧ s.r.Fit ∧ s.k.Fit ∧ s.i.Fit := ⟨h.k.emb.fit.2.2, h.i.fit.2.2, h.k.emb.fit.1, h.i.fit.1⟩
set_option maxRecDepth 100000 in
theorem exists_c (c x : Cd) (hkx : c.kids = [x]) (k5 : c.kind = 5) (s : Sp) (hs : SpOk s) (hm : Emb s.r c.g c.m)
  (ih : s.dng c.m c.g = false → ¬ s.big c.m c.g → ∀ (tok : Tks) (nt : Nat), DCall Tryz.prog 93 [spAv (s.inn c.m c.g), x.av] tok nt (.tup [(x.lft (s.inn c.m c.g)).1.av, I (x.lft (s.inn c.m c.g)).2]) tok nt) (tok : Tks) (nt : Nat) :
  DCall Tryz.prog 157 [spAv s, c.av] tok nt (.tup [(c.lft s).1.av, I (c.lft s).2]) tok nt := by
 intro box nb
 obtain ⟨fl, fr, fk, fi⟩ := hs.fit
 obtain ⟨fm, _, fg⟩ := hm.fit
 have s1 := sorted34_c s.i.nodes fi.n
 have s2 := sorted34_c s.i.edges fi.e
 have hi := imgP_vp hs.i
 have hC := ofP_c s.r c.g (imgP s.r s.i) c.m fr fg fm hi.emb.fit.1 hm hi
 have hL : c.lft s = lftStep 5 c.m c.g s (fun s => kidsE (fun x => Cd.lft x s) [x]) (fun s => kidsE (fun x => Cd.lft x s) [x]) := by rw [c.lft_eq, k5, hkx]
 have eI := imgP_sort hs.i
 rw [eI] at hC
 refine sB Tryz.func157 Tryz.ntmps157 ?_
 intro hbox htok
 simp only at hbox htok
 apply AL.start
 try (simp)
 repeat (refine sR ?_; simp)
 refine Stop.of_d (s1 _ _) ?_
 simp
 try (simp)
 repeat (refine sR ?_; simp)
 refine Stop.of_d (s2 _ _) ?_
 simp
 try (simp)
 repeat (refine sR ?_; simp)
 refine Stop.of_d (hC _ _) ?_
 simp
 rw [← eI]
 by_cases hd : s.dng c.m c.g = true
 ·have e : cmpR s.r c.g (imgP s.r s.i) c.m = (⟨[], []⟩, 14) := if_pos hd
  rw [e, show c.lft s = (noC, 0) by rw [hL, lftStep, if_neg (by simp), if_pos hd]]
  have hn := no_c
  try (simp)
  repeat (refine sR ?_; simp)
  refine sC ?_
  simp
  try (simp)
  repeat (refine sR ?_; simp)
  refine Stop.of_d (hn _ _) ?_
  simp
  try (simp)
  repeat (refine sR ?_; simp)
  refine sT ?_
  try simp only [AU]
  refine ⟨by simp, sF hbox htok (fun _ h => h) (Nat.le_refl _) ?_⟩
  simp [packA]
 ·have hd' : s.dng c.m c.g = false := by simpa using hd
  have e : cmpR s.r c.g (imgP s.r s.i) c.m = (s.z c.m c.g, 0) := if_neg hd
  rw [e]
  have ih := ih hd'
  have vz := Sp.z_vp hs hm hd'
  have hgo := Sp.go_emb hs hm hd'
  have hsub := Sp.go_sub hs hm
  have x1 := extractP_c c.g (s.z c.m c.g) fg vz.emb.fit.1 vz
  have x2 := extractP_c s.l s.k fl fk hs.k
  have vi := hs.i.vm
  have vm := hm.vm
  have p1 := picked_c c.m.nodes s.i.nodes fi.n (by rw [vm.ln]; exact vi.n)
  have p2 := picked_c c.m.edges s.i.edges fi.e (by rw [vm.le]; exact vi.e)
  have a1 := at_c (s.z c.m c.g).nodes (byK s.i.nodes c.m.nodes s.i.nodes.length) vz.emb.fit.1.n (by rw [byK_all]; exact fi.n)
  have a2 := at_c (s.z c.m c.g).edges (byK s.i.edges c.m.edges s.i.edges.length) vz.emb.fit.1.e (by rw [byK_all]; exact fi.e)
  have po := pushP_c (exG s.l s.k) s.l (s.rest c.m c.g) s.k (s.go c.m c.g) hs.k.emb hgo
  have ego : s.go c.m c.g = ⟨(byK s.i.nodes c.m.nodes s.i.nodes.length).map (indexI (s.z c.m c.g).nodes), (byK s.i.edges c.m.edges s.i.edges.length).map (indexI (s.z c.m c.g).edges)⟩ := rfl
  obtain ⟨P, hP⟩ : ∃ P, pushR s.l (s.rest c.m c.g) s.k (s.go c.m c.g) = P := ⟨_, rfl⟩
  rw [hP, ego] at po
  have erest : exG c.g (s.z c.m c.g) = s.rest c.m c.g := rfl
  rw [erest] at x1
  try (simp)
  repeat (refine sR ?_; simp)
  refine sC ?_
  simp
  try (simp)
  repeat (refine sR ?_; simp)
  refine Stop.of_d (x1 _ _) ?_
  simp
  try (simp)
  repeat (refine sR ?_; simp)
  refine sC ?_
  simp
  try (simp)
  repeat (refine sR ?_; simp)
  refine Stop.of_d (x2 _ _) ?_
  simp
  try (simp)
  repeat (refine sR ?_; simp)
  refine sC ?_
  simp
  try (simp)
  repeat (refine sR ?_; simp)
  refine Stop.of_d (p1 _ _) ?_
  simp
  try (simp)
  repeat (refine sR ?_; simp)
  refine Stop.of_d (a1 _ _) ?_
  simp
  try (simp)
  repeat (refine sR ?_; simp)
  refine Stop.of_d (p2 _ _) ?_
  simp
  try (simp)
  repeat (refine sR ?_; simp)
  refine Stop.of_d (a2 _ _) ?_
  simp
  try (simp)
  repeat (refine sR ?_; simp)
  refine Stop.of_d (po _ _) ?_
  simp
  by_cases hb : s.big c.m c.g
  ·have e : P = (⟨⟨[], []⟩, ⟨[], []⟩, ⟨[], []⟩⟩, 3) := by rw [← hP]; exact if_pos hb
   rw [e, show c.lft s = (cdOf 0 [], 3) by rw [hL, lftStep, if_neg (by simp), if_neg (by simp [hd']), if_pos hb]]
   try (simp)
   repeat (refine sR ?_; simp)
   refine sC ?_
   simp
   try (simp)
   repeat (refine sR ?_; simp)
   refine sT ?_
   try simp only [AU]
   refine ⟨by simp, sF hbox htok (fun _ h => h) (Nat.le_refl _) ?_⟩
   simp [packA, cdOf, Cd.kind, Cd.kids, Cd.m, Cd.g, Cd.sl, Cd.vars, Cd.te, conds, ints, AM.edges, slots, tests]
  ·have e : P = (s.po c.m c.g, 0) := by rw [← hP]; exact if_neg hb
   rw [e]
   have ih := ih hb
   obtain ⟨p1, p2, p3⟩ := Sp.po_emb hs hm hd' hb
   have v3 := p3.vm
   have f3 := p3.fit
   have s1 := sorted34_c (s.po c.m c.g).r.nodes f3.1.n
   have s2 := sorted34_c (s.po c.m c.g).r.edges f3.1.e
   have eJ := imgP_sort p3
   have hJ := imgP_vp p3
   have fJ := hJ.emb.fit.1
   have sJ := imgP_sub (y := (s.po c.m c.g).g) (q := (s.po c.m c.g).r)
   rw [eJ] at fJ sJ
   have b1 := backwards_c (sortI (s.po c.m c.g).r.nodes) (s.po c.m c.g).r.nodes (s.z c.m c.g).nodes fJ.n f3.1.n sJ.1 (by rw [v3.ln]; simp [Sp.rest, exG])
   have b2 := backwards_c (sortI (s.po c.m c.g).r.edges) (s.po c.m c.g).r.edges (s.z c.m c.g).edges fJ.e f3.1.e sJ.2 (by rw [v3.le]; simp [Sp.rest, exG])
   have eN : s.inn c.m c.g = ⟨(s.po c.m c.g).g, c.g, imgP (s.po c.m c.g).g (s.po c.m c.g).r, thenM (liftM (s.po c.m c.g).r (imgP (s.po c.m c.g).g (s.po c.m c.g).r)) (s.z c.m c.g)⟩ := rfl
   rw [eJ] at eN
   obtain ⟨R, hR⟩ : ∃ R, x.lft (s.inn c.m c.g) = R := ⟨_, rfl⟩
   rw [hR] at ih
   rw [eN] at ih
   simp only [thenM, liftM, List.length_map] at ih
   try (simp)
   repeat (refine sR ?_; simp)
   refine sC ?_
   simp
   try (simp)
   repeat (refine sR ?_; simp)
   refine Stop.of_d (s1 _ _) ?_
   simp
   try (simp)
   repeat (refine sR ?_; simp)
   refine Stop.of_d (s2 _ _) ?_
   simp
   try (simp)
   repeat (refine sR ?_; simp)
   refine Stop.of_d (b1 _ _) ?_
   simp
   try (simp)
   repeat (refine sR ?_; simp)
   refine Stop.of_d (b2 _ _) ?_
   simp
   try (simp [hkx, Cd.cells_eq])
   repeat (refine sR ?_; simp [hkx, Cd.cells_eq])
   refine Stop.of_d (ih _ _) ?_
   simp
   try (simp)
   repeat (refine sR ?_; simp)
   by_cases h0 : R.2 = 0
   ·rw [show c.lft s = (.mk 5 [R.1] (s.po c.m c.g).l (s.po c.m c.g).g [] 0 [], 0) by rw [hL, lftStep, if_neg (by simp), if_neg (by simp [hd']), if_neg hb]; have hk : kidsE (fun x => Cd.lft x (s.inn c.m c.g)) [x] = ([R.1], 0) := by { unfold kidsE; rw [hR, if_neg (by simp [h0])]; exact if_neg (by simp [kidsE]) }; rw [hk]; exact if_neg (by simp)]
    have hav : (Cd.mk 5 [R.1] (s.po c.m c.g).l (s.po c.m c.g).g [] 0 []).av = .agg [I 5, .d (.sl 9 [R.1.cells]), .d (ints (s.po c.m c.g).l.nodes), .d (ints (s.po c.m c.g).l.edges), .d (ints (s.po c.m c.g).g.nodes), .d (AM.edges (s.po c.m c.g).g.edges), .d (.sl 4 []), I 0, .d (.sl 5 [])] := rfl
    rw [R.1.cells_eq] at hav
    rw [hav]
    simp only [h0]
    refine sC ?_
    simp
    try (simp)
    repeat (refine sR ?_; simp)
    refine sT ?_
    try simp only [AU]
    refine ⟨by simp, sF hbox htok (fun _ h => h) (Nat.le_refl _) ?_⟩
    simp [packA]
   ·rw [show c.lft s = (cdOf 0 [], R.2) by rw [hL, lftStep, if_neg (by simp), if_neg (by simp [hd']), if_neg hb]; have hk : kidsE (fun x => Cd.lft x (s.inn c.m c.g)) [x] = ([], R.2) := by { unfold kidsE; rw [hR]; exact if_pos h0 }; rw [hk]; exact if_pos h0]
    have b0 : (R.2 != 0) = true := by simp [h0]
    simp only [b0]
    refine sC ?_
    simp
    try (simp)
    repeat (refine sR ?_; simp)
    refine sT ?_
    try simp only [AU]
    refine ⟨by simp, sF hbox htok (fun _ h => h) (Nat.le_refl _) ?_⟩
    simp [packA, cdOf, Cd.kind, Cd.kids, Cd.m, Cd.g, Cd.sl, Cd.vars, Cd.te, conds, ints, AM.edges, slots, tests]
end Go.AM
namespace Go.AM
open Go Go.Proofs
def stLk (c : Cd) (s : Sp) (nb : Nat) (box : Bxs) (x : Acc) : AState :=
 ⟨tl [(25, I x.i), (24, I c.kids.length), (23, .d (conds c.kids)), (6, .ptr (nb + 6) 0 0), (4, .ptr (nb + 4) 0 0), (2, .ptr (nb + 2) 0 0)],
  lb nb box [(6, [[I c.kind, .osl 9 (((c.kids.take x.i).map fun k => (k.lft s).1).map Cd.cells) x.own, nilS, nilS, nilS, nilS, nilS, z0i, nilS]]), (4, [[z0i, nilS, nilS, nilS, nilS, nilS, nilS, z0i, nilS]]),
   (2, [[.d (ints s.l.nodes), .d (AM.edges s.l.edges), .d (ints s.r.nodes), .d (AM.edges s.r.edges), .d (ints s.k.nodes), .d (ints s.k.edges), .d (ints s.i.nodes), .d (ints s.i.edges)]])], x.tok, x.nt⟩
set_option maxRecDepth 100000 in
theorem left_c : ∀ (n : Nat) (c : Cd), SizeOf.sizeOf c < n → c.Fit → ∀ s, SpOk s → c.ovr s.r = 0 → ∀ (tok : Tks) (nt : Nat), DCall Tryz.prog 93 [spAv s, c.av] tok nt (.tup [(c.lft s).1.av, I (c.lft s).2]) tok nt
 | 0, c, hn, _, _, _, _, _, _ => absurd hn (Nat.not_lt_zero _)
 | n + 1, c, hn, hf, s, hs, hv, tok, nt => by
  have ih := fun x (hx : x ∈ c.kids) => left_c n x (by have := Cd.kid_lt hx; omega) (hf.kid x hx)
  intro box nb
  have hkl := hf.kids
  obtain ⟨h0, h1, h2⟩ := Cd.ovr_zero hv
  by_cases k5 : c.kind = 5
  ·obtain ⟨hm, x, hkx⟩ := ovr_ex hv k5
   have hi : c.inn s.r = c.g := if_pos k5
   rw [hi] at h2
   have he := exists_c c x hkx k5 s hs hm (fun hd hb => ih x (by rw [hkx]; simp) _ (Sp.inn_ok hs hm hd hb) (h2 x (by rw [hkx]; simp)))
   have b5 : (c.kind == 5) = true := by simp [k5]
   refine sB Tryz.func93 Tryz.ntmps93 ?_
   intro hbox htok
   simp only at hbox htok
   apply AL.start
   try (simp [b5])
   repeat (refine sR ?_; simp [b5])
   refine sC ?_
   simp
   try (simp)
   repeat (refine sR ?_; simp)
   refine Stop.of_d (he _ _) ?_
   simp
   try (simp)
   repeat (refine sR ?_; simp)
   refine sT ?_
   try simp only [AU]
   refine ⟨by simp, sF hbox htok (fun _ h => h) (Nat.le_refl _) ?_⟩
   simp [packA]
  ·have hi : c.inn s.r = s.r := if_neg k5
   rw [hi] at h2
   have b5 : (c.kind == 5) = false := by simp [k5]
   have hL : c.lft s = (if (kidsE (fun x => Cd.lft x s) c.kids).2 ≠ 0 then (cdOf 0 [], (kidsE (fun x => Cd.lft x s) c.kids).2) else (cdOf c.kind (kidsE (fun x => Cd.lft x s) c.kids).1, 0)) := by rw [c.lft_eq]; exact if_pos k5
   refine sB Tryz.func93 Tryz.ntmps93 ?_
   intro hbox htok
   simp only at hbox htok
   apply AL.start
   try (simp [b5])
   repeat (refine sR ?_; simp [b5])
   refine sC ?_
   simp
   try (simp)
   repeat (refine sR ?_; simp)
   refine sN ?_
   have hkl2 := hkl
   rw [kidN_eq] at hkl2
   refine AL.loopT (stLk c s nb box) (fun x => x.i ≤ c.kids.length ∧ (∀ y ∈ c.kids.take x.i, (y.lft s).2 = 0) ∧ TK tok nt x.tok x.nt [x.own]) (fun x => c.kids.length - x.i) ⟨0, .full, tok, nt⟩ ⟨Nat.zero_le _, by simp, (TK.start htok).full⟩ (Weaks.mk (Nat.le_refl _) rfl (by simp [ToL, lk]) (by simp [BoxL, lk])) ?_
   rintro ⟨i, own, tok', nt'⟩ S ⟨hi, hok, htk⟩ hS
   simp only [stLk] at hS hi htk hok
   subst hS
   have hw := sW (i := i) (by omega)
   obtain ⟨K, hK⟩ : ∃ K, (c.kids.take i).map (fun k => (k.lft s).1) = K := ⟨_, rfl⟩
   have hKl : K.length ≤ i := by rw [← hK]; simp; omega
   rw [hK]
   try (simp)
   repeat (refine sR ?_; simp)
   refine sC ?_
   simp
   refine ⟨fun hlt => ?_, fun hge => ?_⟩
   ·have hmem : c.kids[i] ∈ c.kids := List.getElem_mem hlt
    have ihx := ih _ hmem s hs (h2 _ hmem)
    have hstep : (c.kids.take (i + 1)).map (fun k => (k.lft s).1) = K ++ [(c.kids[i].lft s).1] := by rw [← hK, ← List.take_append_getElem hlt, List.map_append]; rfl
    have hall : (c.kids[i].lft s).2 = 0 → ∀ y ∈ c.kids.take (i + 1), (y.lft s).2 = 0 := fun h y hy => by
     rw [← List.take_append_getElem hlt] at hy
     rcases List.mem_append.1 hy with hy | hy
     ·exact hok y hy
     ·rw [List.mem_singleton.1 hy]; exact h
    have hbad := fun h => kidsE_at (f := fun x => Cd.lft x s) hlt hok h
    try (simp [hlt, Cd.cells_eq])
    repeat (refine sR ?_; simp [hlt, Cd.cells_eq])
    refine Stop.of_d (ihx _ _) ?_
    simp
    generalize c.kids[i].lft s = R at *
    try (simp)
    repeat (refine sR ?_; simp)
    by_cases e0 : R.2 = 0
    ·simp only [e0]
     refine sC ?_
     simp
     try (simp)
     repeat (refine sR ?_; simp)
     refine ⟨⟨by omega, htk.live⟩, ?_⟩
     try (simp [hw])
     repeat (refine sR ?_; simp [hw])
     refine sE ?_
     exact ⟨⟨i + 1, _, _, _⟩, ⟨hlt, hall e0, htk.app⟩, by simp only; omega, Weaks.mk htk.app.le rfl (by simp [ToL, lk]) (by simp [BoxL, lk, hstep, Cd.cells_eq])⟩
    ·have b0 : (R.2 != 0) = true := by simp [e0]
     rw [hL, hbad e0, if_pos e0]
     simp only [b0]
     refine sC ?_
     simp
     try (simp)
     repeat (refine sR ?_; simp)
     refine sT ?_
     try simp only [AU]
     refine ⟨by simp, sF hbox htok htk.old htk.le ?_⟩
     simp [packA, cdOf, Cd.kind, Cd.kids, Cd.m, Cd.g, Cd.sl, Cd.vars, Cd.te, conds, ints, AM.edges, slots, tests]
   ·refine sX ?_
    simp only [AU, ↓reduceIte]
    have : i = c.kids.length := by omega
    subst this
    rw [List.take_length] at hok
    rw [List.take_length] at hK
    rw [hL, kidsE_of hok, if_neg (by simp), hK]
    have hav : (cdOf c.kind K).av = .agg [I c.kind, .d (conds K), .d (ints []), .d (ints []), .d (ints []), .d (AM.edges []), .d (slots []), I 0, .d (tests [])] := rfl
    rw [hav]
    try (simp)
    repeat (refine sR ?_; simp)
    refine sT ?_
    try simp only [AU]
    refine ⟨by simp, sF hbox htok htk.old htk.le ?_⟩
    simp [packA, ints, AM.edges, slots, tests]
end Go.AM
namespace Go.AM
open Go Go.Proofs
end Go.AM
namespace Go.AM
open Go Go.Proofs
def movR (s : Sp) (c : Cd) : Cd × Int := if validC s.r c ≠ 0 then (cdOf 0 [], validC s.r c) else if (c.lft s).2 ≠ 0 then (cdOf 0 [], (c.lft s).2) else if validC s.l (c.lft s).1 ≠ 0 then (cdOf 0 [], validC s.l (c.lft s).1) else ((c.lft s).1, 0)
def leftR (r : Ru) (c : Cd) : Cd × Int := if strR r ≠ 0 then (cdOf 0 [], strR r) else movR r.sp c
theorem validC_zero {a : Gr} {c : Cd} (h : validC a c = 0) : validG a = 0 ∧ c.ovr a = 0 := by
 unfold validC at h
 split at h
 ·contradiction
 ·split at h
  ·contradiction
  ·rename_i h1 h2
   exact ⟨Decidable.not_not.1 h1, Decidable.not_not.1 h2⟩
theorem zav : (cdOf 0 []).av = .agg [I 0, .d (.sl 9 []), .d (.sl 1 []), .d (.sl 1 []), .d (.sl 1 []), .d (.sl 3 []), .d (.sl 4 []), I 0, .d (.sl 5 [])] := rfl
set_option maxRecDepth 100000 in
theorem moved_c (s : Sp) (c : Cd) (hs : SpOk s) (hf : c.Fit) (tok : Tks) (nt : Nat) : DCall Tryz.prog 42 [spAv s, c.av] tok nt (.tup [(movR s c).1.av, I (movR s c).2]) tok nt := by
 intro box nb
 obtain ⟨fl, fr, fk, fi⟩ := hs.fit
 have h1 := validC_c s.r c fr hf
 have h2 := fun hv => left_c _ c (Nat.lt_succ_self _) hf s hs hv
 refine sB Tryz.func42 Tryz.ntmps42 ?_
 intro hbox htok
 simp only at hbox htok
 apply AL.start
 try (simp)
 repeat (refine sR ?_; simp)
 refine Stop.of_d (h1 _ _) ?_
 simp
 try (simp)
 repeat (refine sR ?_; simp)
 by_cases e1 : validC s.r c = 0
 ·have hv := (validC_zero e1).2
  simp only [e1]
  refine sC ?_
  simp
  try (simp)
  repeat (refine sR ?_; simp)
  refine Stop.of_d (h2 hv _ _) ?_
  simp
  have hok := lft_ok _ c (Nat.lt_succ_self _) hf s hs hv
  obtain ⟨R, hR⟩ : ∃ R, c.lft s = R := ⟨_, rfl⟩
  rw [hR] at hok ⊢
  try (simp)
  repeat (refine sR ?_; simp)
  by_cases e2 : R.2 = 0
  ·have h3 := validC_c s.l R.1 fl (hok e2).fit
   simp only [e2]
   refine sC ?_
   simp
   try (simp)
   repeat (refine sR ?_; simp)
   refine Stop.of_d (h3 _ _) ?_
   simp
   try (simp)
   repeat (refine sR ?_; simp)
   by_cases e3 : validC s.l R.1 = 0
   ·rw [show movR s c = (R.1, 0) by rw [movR, if_neg (by simp [e1]), hR, if_neg (by simp [e2]), if_neg (by simp [e3])]]
    simp only [e3]
    refine sC ?_
    simp
    try (simp)
    repeat (refine sR ?_; simp)
    refine sT ?_
    try simp only [AU]
    refine ⟨by simp, sF hbox htok (fun _ h => h) (Nat.le_refl _) ?_⟩
    simp [packA]
   ·rw [show movR s c = (cdOf 0 [], validC s.l R.1) by rw [movR, if_neg (by simp [e1]), hR, if_neg (by simp [e2]), if_pos e3], zav]
    have b3 : (validC s.l R.1 != 0) = true := by simp [e3]
    simp only [b3]
    refine sC ?_
    simp
    try (simp)
    repeat (refine sR ?_; simp)
    refine sT ?_
    try simp only [AU]
    refine ⟨by simp, sF hbox htok (fun _ h => h) (Nat.le_refl _) ?_⟩
    simp [packA]
  ·rw [show movR s c = (cdOf 0 [], R.2) by rw [movR, if_neg (by simp [e1]), hR, if_pos e2], zav]
   have b2 : (R.2 != 0) = true := by simp [e2]
   simp only [b2]
   refine sC ?_
   simp
   try (simp)
   repeat (refine sR ?_; simp)
   refine sT ?_
   try simp only [AU]
   refine ⟨by simp, sF hbox htok (fun _ h => h) (Nat.le_refl _) ?_⟩
   simp [packA]
 ·rw [show movR s c = (cdOf 0 [], validC s.r c) by rw [movR, if_pos e1], zav]
  have b1 : (validC s.r c != 0) = true := by simp [e1]
  simp only [b1]
  refine sC ?_
  simp
  try (simp)
  repeat (refine sR ?_; simp)
  refine sT ?_
  try simp only [AU]
  refine ⟨by simp, sF hbox htok (fun _ h => h) (Nat.le_refl _) ?_⟩
  simp [packA]
set_option maxRecDepth 100000 in
theorem leftP_c (r : Ru) (c : Cd) (hr : r.Fit) (hf : c.Fit) (tok : Tks) (nt : Nat) : DCall Tryz.prog 14 [r.av, c.av] tok nt (.tup [(leftR r c).1.av, I (leftR r c).2]) tok nt := by
 intro box nb
 have h1 := structural_c r hr
 have h2 := tof_c r
 have h3 := fun hs => moved_c r.sp c hs hf
 refine sB Tryz.func14 Tryz.ntmps14 ?_
 intro hbox htok
 simp only at hbox htok
 apply AL.start
 try (simp)
 repeat (refine sR ?_; simp)
 refine Stop.of_d (h1 _ _) ?_
 simp
 try (simp)
 repeat (refine sR ?_; simp)
 by_cases e1 : strR r = 0
 ·have hs := (strR_zero e1).1
  rw [show leftR r c = movR r.sp c by rw [leftR, if_neg (by simp [e1])]]
  simp only [e1]
  refine sC ?_
  simp
  try (simp)
  repeat (refine sR ?_; simp)
  refine Stop.of_d (h2 _ _) ?_
  simp
  try (simp)
  repeat (refine sR ?_; simp)
  refine Stop.of_d (h3 hs _ _) ?_
  simp
  try (simp)
  repeat (refine sR ?_; simp)
  refine sT ?_
  try simp only [AU]
  refine ⟨by simp, sF hbox htok (fun _ h => h) (Nat.le_refl _) ?_⟩
  simp [packA]
 ·rw [show leftR r c = (cdOf 0 [], strR r) by rw [leftR, if_pos e1], zav]
  have b1 : (strR r != 0) = true := by simp [e1]
  simp only [b1]
  refine sC ?_
  simp
  try (simp)
  repeat (refine sR ?_; simp)
  refine sT ?_
  try simp only [AU]
  refine ⟨by simp, sF hbox htok (fun _ h => h) (Nat.le_refl _) ?_⟩
  simp [packA]
end Go.AM
namespace Go.AM
open Go Go.Proofs
def Sp.ru (s : Sp) : Ru := ⟨⟨#[]⟩, s.l, [], 0, [], s.r, [], 0, [], s.k, s.i, true, cdOf 0 []⟩
theorem of34_c (l r : Gr) (k i : Mo) (tok : Tks) (nt : Nat) : DCall Tryz.prog 139 [l.av, r.av, k.av, i.av] tok nt (Sp.ru ⟨l, r, k, i⟩).av tok nt := by
 intro box nb
 refine sB Tryz.func139 Tryz.ntmps139 ?_
 intro hbox htok
 simp only at hbox htok
 apply AL.start
 try (simp)
 repeat (refine sR ?_; simp)
 refine sT ?_
 try simp only [AU]
 refine ⟨by simp, sF hbox htok (fun _ h => h) (Nat.le_refl _) ?_⟩
 simp [packA, Sp.ru, cdOf, Cd.kind, Cd.kids, Cd.m, Cd.g, Cd.sl, Cd.vars, Cd.te, conds, ints, AM.edges, slots, tests]
end Go.AM
namespace Go.AM
open Go Go.Proofs
structure Ru.Big (r : Ru) : Prop where
 k : r.k.nodes.length ≤ bigN ∧ r.k.edges.length ≤ bigN
 i : r.i.nodes.length ≤ bigN ∧ r.i.edges.length ≤ bigN
 ls : r.lsl.length ≤ bigN
 lt : r.lte.length ≤ bigN
 rs : r.rsl.length ≤ bigN
 rt : r.rte.length ≤ bigN
 c : r.c.Big
theorem ovr_shs : ∀ (n : Nat) (c : Cd), SizeOf.sizeOf c < n → ∀ a, c.ovr a = 0 → c.shs = 0
 | 0, c, hn, _, _ => absurd hn (Nat.not_lt_zero _)
 | n + 1, c, hn, a, hv => by
  obtain ⟨h0, _, h2⟩ := Cd.ovr_zero hv
  rw [c.shs_eq, if_pos h0]
  exact errL_all fun x hx => ovr_shs n x (by have := Cd.kid_lt hx; omega) _ (h2 x hx)
end Go.AM
namespace Go.AM
open Go Go.Proofs
def backL (l : List Int) (n : Nat) : List Int := (List.range n).map fun (k : Nat) => indexI l (k : Int)
end Go.AM
namespace Go.AM
open Go Go.Proofs
end Go.AM
namespace Go.AM
open Go Go.Proofs
def gwN (ns cs : List Int) (i : Nat) : List Int := ((cs.take i).drop 1).foldl (fun s c => if c % 2 = 1 then s ++ [c / 2 % 3] else s) ns
def gwE (n : Nat) (es : List E) (cs : List Int) (i : Nat) : List E := ((cs.take i).drop 4).foldl (fun s c => s ++ [⟨c % 2, c / 2 % n, c / 16 % n⟩]) es
theorem drop_snoc {l : List Int} {i k : Nat} (h : i < l.length) (hk : k ≤ i) : (l.take (i + 1)).drop k = (l.take i).drop k ++ [l[i]] := by
 rw [List.take_succ_eq_append_getElem h, List.drop_append_of_le_length (by simp; omega)]
theorem gwN_more {ns cs : List Int} {i : Nat} (h : i < cs.length) (h1 : 1 ≤ i) : gwN ns cs (i + 1) = if cs[i] % 2 = 1 then gwN ns cs i ++ [cs[i] / 2 % 3] else gwN ns cs i := by
 rw [gwN, drop_snoc h h1, List.foldl_append]
 rfl
theorem gwE_more {n : Nat} {es : List E} {cs : List Int} {i : Nat} (h : i < cs.length) (h1 : 4 ≤ i) : gwE n es cs (i + 1) = gwE n es cs i ++ [⟨cs[i] % 2, cs[i] / 2 % n, cs[i] / 16 % n⟩] := by
 rw [gwE, drop_snoc h h1, List.foldl_append]
 rfl
theorem gwN_len {ns cs : List Int} : ∀ i, (gwN ns cs i).length ≤ ns.length + i
 | 0 => by simp [gwN]
 | i + 1 => by
  have ih := @gwN_len ns cs i
  by_cases h : i < cs.length
  ·by_cases h1 : 1 ≤ i
   ·rw [gwN_more h h1]
    split
    ·rw [List.length_append]; simp; omega
    ·omega
   ·have : i = 0 := by omega
    subst this
    rw [gwN, List.drop_eq_nil_of_le (by simp; omega)]
    simp
  ·rw [gwN, List.take_of_length_le (by omega)]
   rw [gwN, List.take_of_length_le (by omega)] at ih
   omega
theorem gwE_len {n : Nat} {es : List E} {cs : List Int} : ∀ i, (gwE n es cs i).length ≤ es.length + i
 | 0 => by simp [gwE]
 | i + 1 => by
  have ih := @gwE_len n es cs i
  by_cases h : i < cs.length
  ·by_cases h1 : 4 ≤ i
   ·rw [gwE_more h h1, List.length_append]; simp; omega
   ·rw [gwE, List.drop_eq_nil_of_le (by simp; omega)]
    simp
  ·rw [gwE, List.take_of_length_le (by omega)]
   rw [gwE, List.take_of_length_le (by omega)] at ih
   omega
def gwG (g : Gr) (cs : List Int) : Gr :=
 ⟨gwN g.nodes cs (min cs.length 4), if (gwN g.nodes cs (min cs.length 4)).length = 0 then g.edges else gwE (gwN g.nodes cs (min cs.length 4)).length g.edges cs (min cs.length 8)⟩
def stG1 (g : Gr) (cs : List Int) (nb : Nat) (box : Bxs) (x : Acc5) : AState :=
 ⟨tl [(8, I x.i), (7, .ptr (nb + 7) 0 0), (6, .ptr (nb + 6) 0 0), (5, .ptr (nb + 5) 0 0), (4, .ptr (nb + 4) 0 0), (1, .d (bytes cs))],
  lb nb box [(6, [[.osl 1 (rI (gwN g.nodes cs x.i)) x.o1, .osl 3 (rE g.edges) x.o2]]), (7, [[.d (ints (iota g.nodes.length)), .d (ints (iota g.edges.length))]]), (5, [[nilS, nilS]]), (4, [[nilS, nilS]])], x.tok, x.nt⟩
def stG2 (g : Gr) (N : List Int) (cs : List Int) (nb : Nat) (box : Bxs) (x : Acc5) : AState :=
 ⟨tl [(9, I x.i), (7, .ptr (nb + 7) 0 0), (6, .ptr (nb + 6) 0 0), (5, .ptr (nb + 5) 0 0), (4, .ptr (nb + 4) 0 0), (1, .d (bytes cs))],
  lb nb box [(6, [[.osl 1 (rI N) x.o1, .osl 3 (rE (gwE N.length g.edges cs x.i)) x.o2]]), (7, [[.d (ints (iota g.nodes.length)), .d (ints (iota g.edges.length))]]), (5, [[nilS, nilS]]), (4, [[nilS, nilS]])], x.tok, x.nt⟩
def stGm (g : Gr) (N : List Int) (cs : List Int) (nb : Nat) (box : Bxs) (x : Acc5) : AState :=
 ⟨tl [(7, .ptr (nb + 7) 0 0), (6, .ptr (nb + 6) 0 0), (5, .ptr (nb + 5) 0 0), (4, .ptr (nb + 4) 0 0), (1, .d (bytes cs))],
  lb nb box [(6, [[.osl 1 (rI N) x.o1, .osl 3 (rE g.edges) x.o2]]), (7, [[.d (ints (iota g.nodes.length)), .d (ints (iota g.edges.length))]]), (5, [[nilS, nilS]]), (4, [[nilS, nilS]])], x.tok, x.nt⟩
theorem grown10_c (g : Gr) (hg : g.Fit) (cs : List Int) (hc : U8s cs) (hl : cs.length ≤ 1000) (h1 : 0 < cs.length) (h0 : cs[0] = 255) (tok : Tks) (nt : Nat) :
  DCall Tryz.prog 138 [g.av, .d (bytes cs)] tok nt (.tup [(gwG g cs).av, (idM g).av]) tok nt := by
 intro box nb
 have hcp := copied_c g hg
 have hof := of_c g hg
 refine sB Tryz.func138 Tryz.ntmps138 ?_
 intro hbox htok
 simp only at hbox htok
 apply AL.start
 try (simp)
 repeat (refine sR ?_; simp)
 refine Stop.of_d (hcp _ _) ?_
 simp
 refine Stop.of_d (hof _ _) ?_
 simp
 try (simp [h1, h0, bytes_at h1])
 repeat (refine sR ?_; simp [h1, h0, bytes_at h1])
 refine sC ?_
 simp
 try (simp)
 repeat (refine sR ?_; simp)
 refine Stop.data ?_
 refine Stop.of_d (hcp _ _) ?_
 simp
 refine sR ?_
 simp
 have e1 : gwN g.nodes cs 1 = g.nodes := by rw [gwN, List.drop_eq_nil_of_le (by simp; omega)]; rfl
 refine AL.midT (stGm g (gwN g.nodes cs (min cs.length 4)) cs nb box) (fun y => TK tok nt y.tok y.nt [y.o1, y.o2]) ?_ ?_
 ·refine sN ?_
  have htk0 := ((TK.start htok).full.app.full.app.tail.tail).full.app.full.app.swap
  refine AL.loopT (stG1 g cs nb box) (fun x => 1 ≤ x.i ∧ x.i ≤ cs.length ∧ x.i ≤ 4 ∧ TK tok nt x.tok x.nt [x.o1, x.o2]) (fun x => cs.length - x.i) ⟨1, .tok (nt + 2), .tok (nt + 2 + 1), _, _⟩ ⟨by simp, by simp only; omega, by simp, htk0⟩ (Weaks.mk htk0.le rfl (by simp [ToL, lk]) (by simp [BoxL, lk, e1])) ?_
  clear htk0
  rintro ⟨i, o1, o2, tok1, nt1⟩ S ⟨hi1, hi, hi4, htk⟩ hS
  simp only [stG1] at hS hi1 hi hi4 htk
  subst hS
  have hw := sW (i := i) (by omega)
  have hlen := @gwN_len g.nodes cs i
  have hgn := hg.n
  have hge := hg.e
  by_cases hlt : i < cs.length ∧ i ≤ 3
  ·obtain ⟨hlt, h3⟩ := hlt
   have h3' : (i : Int) ≤ 3 := by omega
   obtain ⟨c0, c1⟩ := hc _ (List.getElem_mem hlt)
   have hmore := gwN_more (ns := g.nodes) hlt hi1
   have hb := bytes_at hlt
   generalize hK2 : gwN g.nodes cs (i + 1) = K2 at *
   generalize gwN g.nodes cs i = K at *
   have C := codeA c0 c1
   by_cases odd : cs[i] % 2 = 1
   ·rw [if_pos odd] at hmore
    try (simp [hlt, h3'])
    repeat (refine sR ?_; simp [hlt, h3'])
    refine sC ?_
    simp
    try (simp [hb, hlt, C.m2, odd])
    repeat (refine sR ?_; simp [hb, hlt, C.m2, odd])
    refine sC ?_
    simp [C.m2, odd]
    try (simp [hb, hlt, C.d2, C.w2, C.t3])
    repeat (refine sR ?_; simp [hb, hlt, C.d2, C.w2, C.t3])
    refine ⟨⟨by omega, htk.live⟩, ?_⟩
    try (simp [hw])
    repeat (refine sR ?_; simp [hw])
    refine sE ?_
    refine ⟨⟨i + 1, .tok nt1, o2, upd (o1.kill tok1) nt1 true, nt1 + 1⟩, ⟨by simp only; omega, hlt, by simp only; omega, htk.app⟩, by simp only; omega, ?_⟩
    simp only [stG1, hK2, hmore]
    exact Weaks.mk htk.app.le rfl (by simp [ToL, lk]) (by simp [BoxL, lk, rI])
   ·rw [if_neg odd] at hmore
    try (simp [hlt, h3'])
    repeat (refine sR ?_; simp [hlt, h3'])
    refine sC ?_
    simp
    try (simp [hb, hlt, C.m2, odd])
    repeat (refine sR ?_; simp [hb, hlt, C.m2, odd])
    refine sC ?_
    simp [C.m2, odd]
    try (simp [hw])
    repeat (refine sR ?_; simp [hw])
    refine sE ?_
    refine ⟨⟨i + 1, o1, o2, tok1, nt1⟩, ⟨by simp only; omega, hlt, by simp only; omega, htk⟩, by simp only; omega, ?_⟩
    simp only [stG1, hK2, hmore]
    exact Weaks.mk htk.le rfl (by simp [ToL, lk]) (by simp [BoxL, lk])
  ·have hx : min cs.length 4 = i := by omega
   by_cases hl2 : i < cs.length
   ·have h3' : ¬ (i : Int) ≤ 3 := by omega
    try (simp [hl2, h3'])
    repeat (refine sR ?_; simp [hl2, h3'])
    refine sC ?_
    simp
    refine sX ?_
    simp only [AU, ↓reduceIte]
    refine sE ?_
    refine ⟨⟨0, o1, o2, tok1, nt1⟩, htk, ?_⟩
    simp only [stGm, hx]
    exact Weaks.mk htk.le rfl (by simp [ToL, lk]) (by simp [BoxL, lk])
   ·try (simp [hl2])
    repeat (refine sR ?_; simp [hl2])
    refine sC ?_
    simp
    refine sX ?_
    simp only [AU, ↓reduceIte]
    refine sE ?_
    refine ⟨⟨0, o1, o2, tok1, nt1⟩, htk, ?_⟩
    simp only [stGm, hx]
    exact Weaks.mk htk.le rfl (by simp [ToL, lk]) (by simp [BoxL, lk])
 ·rintro ⟨i0, o1, o2, tok1, nt1⟩ htk
  simp only at htk
  clear e1
  obtain ⟨N, hN⟩ : ∃ N, gwN g.nodes cs (min cs.length 4) = N := ⟨_, rfl⟩
  have hNl := @gwN_len g.nodes cs (min cs.length 4)
  have hG : gwG g cs = ⟨N, if N.length = 0 then g.edges else gwE N.length g.edges cs (min cs.length 8)⟩ := by rw [gwG, hN]
  have hgn := hg.n
  have hge := hg.e
  rw [hN] at hNl ⊢
  simp only [stGm]
  try (simp)
  repeat (refine sR ?_; simp)
  refine sN ?_
  have e1 : gwE N.length g.edges cs 4 = g.edges := by rw [gwE, List.drop_eq_nil_of_le (by simp; omega)]; rfl
  refine AL.loopT (stG2 g N cs nb box) (fun x => 4 ≤ x.i ∧ (x.i = 4 ∨ x.i ≤ cs.length) ∧ x.i ≤ 8 ∧ (N.length = 0 → x.i = 4) ∧ TK tok nt x.tok x.nt [x.o1, x.o2]) (fun x => 8 - x.i) ⟨4, o1, o2, tok1, nt1⟩ ⟨by simp, .inl rfl, by simp, fun _ => rfl, htk⟩ (Weaks.mk htk.le rfl (by simp [ToL, lk]) (by simp [BoxL, lk, e1])) ?_
  clear htk e1
  rintro ⟨i, o1, o2, tok1, nt1⟩ S ⟨hi1, hi, hi4, hz, htk⟩ hS
  simp only [stG2] at hS hi1 hi hi4 hz htk
  subst hS
  have hw := sW (i := i) (by omega)
  have hlen := @gwE_len N.length g.edges cs i
  by_cases hc3 : i < cs.length ∧ i ≤ 7 ∧ 0 < N.length
  ·obtain ⟨hlt, h7, hn0⟩ := hc3
   have h7' : (i : Int) ≤ 7 := by omega
   have hn0' : (0 : Int) < N.length := by omega
   have hnz : ¬ (N.length : Int) = 0 := by omega
   have hnz2 : ¬ N = [] := fun h => by rw [h] at hn0; simp at hn0
   obtain ⟨c0, c1⟩ := hc _ (List.getElem_mem hlt)
   have hmore := gwE_more (n := N.length) (es := g.edges) hlt hi1
   have hb := bytes_at hlt
   generalize hK2 : gwE N.length g.edges cs (i + 1) = K2 at *
   generalize gwE N.length g.edges cs i = K at *
   have C := codeA c0 c1
   have n2 : (cs[i] / 2).tmod (N.length : Int) = cs[i] / 2 % N.length := Int.tmod_eq_emod_of_nonneg (by omega)
   have w0 : IntKind.i64.wrap cs[i] = cs[i] := wrap_in (by omega) (by omega)
   try (simp [hlt, h7', hn0', hn0, hnz2])
   repeat (refine sR ?_; simp [hlt, h7', hn0', hn0, hnz2])
   refine sC ?_
   simp [hlt, h7', hn0', hn0, hnz2]
   try (simp [hb, hlt, C.m2, C.d2, C.d16, C.w2, C.w16, w0, n2, C.n16, hnz, hnz2])
   repeat (refine sR ?_; simp [hb, hlt, C.m2, C.d2, C.d16, C.w2, C.w16, w0, n2, C.n16, hnz, hnz2])
   refine ⟨⟨by omega, htk.swap.live⟩, ?_⟩
   try (simp [hw])
   repeat (refine sR ?_; simp [hw])
   refine sE ?_
   refine ⟨⟨i + 1, o1, .tok nt1, upd (o2.kill tok1) nt1 true, nt1 + 1⟩, ⟨by simp only; omega, .inr hlt, by simp only; omega, htk.swap.app.swap⟩, by simp only; omega, ?_⟩
   simp only [stG2, hK2, hmore]
   exact Weaks.mk htk.swap.app.le rfl (by simp [ToL, lk]) (by simp [BoxL, lk, rE])
  ·have hfin : (if N.length = 0 then g.edges else gwE N.length g.edges cs (min cs.length 8)) = gwE N.length g.edges cs i := by
    have e4 : ∀ k, k ≤ 4 → gwE N.length g.edges cs k = g.edges := fun k hk => by rw [gwE, List.drop_eq_nil_of_le (by simp; omega)]; rfl
    by_cases hn : N.length = 0
    ·rw [if_pos hn, hz hn, e4 4 (Nat.le_refl _)]
    ·rw [if_neg hn]
     by_cases hl4 : cs.length ≤ 4
     ·rw [e4 _ (by omega), e4 i (by omega)]
     ·rw [show min cs.length 8 = i by omega]
   rw [hfin] at hG
   clear hfin
   generalize gwE N.length g.edges cs i = K at *
   by_cases hlt : i < cs.length
   ·by_cases h7 : i ≤ 7
    ·have h7' : (i : Int) ≤ 7 := by omega
     have hN0 : N = [] := List.length_eq_zero_iff.1 (by omega)
     try (simp [hlt, h7', hN0])
     repeat (refine sR ?_; simp [hlt, h7', hN0])
     refine sC ?_
     simp [hlt, h7', hN0]
     refine sX ?_
     simp only [AU, ↓reduceIte]
     refine sN ?_
     refine AL.region2 follows_Tryz (Nat.le_refl _) (by kernel_rfl) (Side.of (by simp)) ?_
     simp
     refine sT ?_
     try simp only [AU]
     refine ⟨by simp, sF hbox htok htk.old htk.le ?_⟩
     simp [packA, hG, hN0, idM, ints]
    ·have h7' : ¬ (i : Int) ≤ 7 := by omega
     try (simp [hlt, h7'])
     repeat (refine sR ?_; simp [hlt, h7'])
     refine sC ?_
     simp [hlt, h7']
     refine sX ?_
     simp only [AU, ↓reduceIte]
     refine sN ?_
     refine AL.region2 follows_Tryz (Nat.le_refl _) (by kernel_rfl) (Side.of (by simp)) ?_
     simp
     refine sT ?_
     try simp only [AU]
     refine ⟨by simp, sF hbox htok htk.old htk.le ?_⟩
     simp [packA, hG, idM]
   ·try (simp [hlt])
    repeat (refine sR ?_; simp [hlt])
    refine sC ?_
    simp [hlt]
    refine sX ?_
    simp only [AU, ↓reduceIte]
    refine sN ?_
    refine AL.region2 follows_Tryz (Nat.le_refl _) (by kernel_rfl) (Side.of (by simp)) ?_
    simp
    refine sT ?_
    try simp only [AU]
    refine ⟨by simp, sF hbox htok htk.old htk.le ?_⟩
    simp [packA, hG, idM]
end Go.AM
namespace Go.AM
open Go Go.Proofs
abbrev Ub (n : Int) : AV := .d (.raw (.int .u8 n))
abbrev Sb (s : ByteArray) : AV := .d (.raw (.string s))
def letB (c : Int) : Bool := decide (97 ≤ c ∧ c ≤ 122 ∨ 65 ≤ c ∧ c ≤ 90)
def digB (c : Int) : Bool := decide (48 ≤ c ∧ c ≤ 57)
def parB (c : Int) : Bool := letB c || digB c || c == 95
def byteAt (s : ByteArray) (i : Nat) : Int := (s.data.toList.getD i 0).toNat
theorem letter_c (c : Int) (tok : Tks) (nt : Nat) : DCall Tryz.prog 280 [Ub c] tok nt (B (letB c)) tok nt := by
 intro box nb
 by_cases h1 : 97 ≤ c
 ·by_cases h2 : c ≤ 122
  ·refine sB Tryz.func280 Tryz.ntmps280 ?_
   intro hbox htok
   simp only at hbox htok
   apply AL.start
   try (simp [h1, h2])
   repeat (refine sR ?_; simp [h1, h2])
   refine sT ?_
   try simp only [AU]
   refine ⟨by simp, sF hbox htok (fun _ h => h) (Nat.le_refl _) ?_⟩
   simp [packA, letB, h1, h2]
  ·have h3 : ¬ c ≤ 90 := by omega
   have h4 : 65 ≤ c := by omega
   refine sB Tryz.func280 Tryz.ntmps280 ?_
   intro hbox htok
   simp only at hbox htok
   apply AL.start
   try (simp [h1, h2, h3, h4])
   repeat (refine sR ?_; simp [h1, h2, h3, h4])
   refine sT ?_
   try simp only [AU]
   refine ⟨by simp, sF hbox htok (fun _ h => h) (Nat.le_refl _) ?_⟩
   simp [packA, letB, h1, h2, h3, h4]
 ·by_cases h3 : 65 ≤ c
  ·by_cases h4 : c ≤ 90
   ·refine sB Tryz.func280 Tryz.ntmps280 ?_
    intro hbox htok
    simp only at hbox htok
    apply AL.start
    try (simp [h1, h3, h4])
    repeat (refine sR ?_; simp [h1, h3, h4])
    refine sT ?_
    try simp only [AU]
    refine ⟨by simp, sF hbox htok (fun _ h => h) (Nat.le_refl _) ?_⟩
    simp [packA, letB, h1, h3, h4]
   ·refine sB Tryz.func280 Tryz.ntmps280 ?_
    intro hbox htok
    simp only at hbox htok
    apply AL.start
    try (simp [h1, h3, h4])
    repeat (refine sR ?_; simp [h1, h3, h4])
    refine sT ?_
    try simp only [AU]
    refine ⟨by simp, sF hbox htok (fun _ h => h) (Nat.le_refl _) ?_⟩
    simp [packA, letB, h1, h3, h4]
  ·refine sB Tryz.func280 Tryz.ntmps280 ?_
   intro hbox htok
   simp only at hbox htok
   apply AL.start
   try (simp [h1, h3])
   repeat (refine sR ?_; simp [h1, h3])
   refine sT ?_
   try simp only [AU]
   refine ⟨by simp, sF hbox htok (fun _ h => h) (Nat.le_refl _) ?_⟩
   simp [packA, letB, h1, h3]
theorem digit_c (c : Int) (tok : Tks) (nt : Nat) : DCall Tryz.prog 283 [Ub c] tok nt (B (digB c)) tok nt := by
 intro box nb
 by_cases h1 : 48 ≤ c
 ·by_cases h2 : c ≤ 57
  ·refine sB Tryz.func283 Tryz.ntmps283 ?_
   intro hbox htok
   simp only at hbox htok
   apply AL.start
   try (simp [h1, h2])
   repeat (refine sR ?_; simp [h1, h2])
   refine sT ?_
   try simp only [AU]
   refine ⟨by simp, sF hbox htok (fun _ h => h) (Nat.le_refl _) ?_⟩
   simp [packA, digB, h1, h2]
  ·refine sB Tryz.func283 Tryz.ntmps283 ?_
   intro hbox htok
   simp only at hbox htok
   apply AL.start
   try (simp [h1, h2])
   repeat (refine sR ?_; simp [h1, h2])
   refine sT ?_
   try simp only [AU]
   refine ⟨by simp, sF hbox htok (fun _ h => h) (Nat.le_refl _) ?_⟩
   simp [packA, digB, h1, h2]
 ·refine sB Tryz.func283 Tryz.ntmps283 ?_
  intro hbox htok
  simp only at hbox htok
  apply AL.start
  try (simp [h1])
  repeat (refine sR ?_; simp [h1])
  refine sT ?_
  try simp only [AU]
  refine ⟨by simp, sF hbox htok (fun _ h => h) (Nat.le_refl _) ?_⟩
  simp [packA, digB, h1]
theorem part_c1 (c : Int) (tok : Tks) (nt : Nat) : DCall Tryz.prog 282 [Ub c] tok nt (B (parB c)) tok nt := by
 intro box nb
 have h1 := letter_c c
 have h2 := digit_c c
 cases e1 : letB c
 ·cases e2 : digB c
  ·rw [e1] at h1
   rw [e2] at h2
   refine sB Tryz.func282 Tryz.ntmps282 ?_
   intro hbox htok
   simp only at hbox htok
   apply AL.start
   try (simp)
   repeat (refine sR ?_; simp)
   refine Stop.of_d (h1 _ _) ?_
   simp
   try (simp)
   repeat (refine sR ?_; simp)
   refine Stop.of_d (h2 _ _) ?_
   simp
   try (simp)
   repeat (refine sR ?_; simp)
   refine sT ?_
   try simp only [AU]
   refine ⟨by simp, sF hbox htok (fun _ h => h) (Nat.le_refl _) ?_⟩
   simp [packA, parB, e1, e2]
  ·rw [e1] at h1
   rw [e2] at h2
   refine sB Tryz.func282 Tryz.ntmps282 ?_
   intro hbox htok
   simp only at hbox htok
   apply AL.start
   try (simp)
   repeat (refine sR ?_; simp)
   refine Stop.of_d (h1 _ _) ?_
   simp
   try (simp)
   repeat (refine sR ?_; simp)
   refine Stop.of_d (h2 _ _) ?_
   simp
   try (simp)
   repeat (refine sR ?_; simp)
   refine sT ?_
   try simp only [AU]
   refine ⟨by simp, sF hbox htok (fun _ h => h) (Nat.le_refl _) ?_⟩
   simp [packA, parB, e1, e2]
 ·rw [e1] at h1
  refine sB Tryz.func282 Tryz.ntmps282 ?_
  intro hbox htok
  simp only at hbox htok
  apply AL.start
  try (simp)
  repeat (refine sR ?_; simp)
  refine Stop.of_d (h1 _ _) ?_
  simp
  try (simp)
  repeat (refine sR ?_; simp)
  refine sT ?_
  try simp only [AU]
  refine ⟨by simp, sF hbox htok (fun _ h => h) (Nat.le_refl _) ?_⟩
  simp [packA, parB, e1]
def runN (p : Int → Bool) (s : ByteArray) (at' : Nat) : Nat := ((s.data.toList.drop at').takeWhile fun b => p (b.toNat : Int)).length
theorem takeW_len {α : Type} (q : α → Bool) (d : α) : ∀ (l : List α) (i : Nat), i ≤ l.length → (∀ j, j < i → q (l.getD j d) = true) → (i = l.length ∨ q (l.getD i d) = false) → (l.takeWhile q).length = i
 | [], i, hi, _, _ => by simp at hi; subst hi; rfl
 | x :: l, 0, _, _, h => by
  have h2 : q x = false := by simpa using h
  simp [List.takeWhile_cons, h2]
 | x :: l, i + 1, hi, h1, h2 => by
  have hx : q x = true := by simpa using h1 0 (by omega)
  have ih := takeW_len q d l i (by simpa using hi) (fun j hj => by simpa using h1 (j + 1) (by omega)) (by simpa using h2)
  simp [List.takeWhile_cons, hx, ih]
theorem size_toList (s : ByteArray) : s.data.toList.length = s.size := by rw [Array.length_toList]; rfl
theorem byteAt_lt {s : ByteArray} {i : Nat} (h : i < s.size) : (s.data[i].toNat : Int) = byteAt s i := by
 have h2 : i < s.data.toList.length := by rw [size_toList]; exact h
 rw [byteAt, List.getD_eq_getElem?_getD, List.getElem?_eq_getElem h2, Option.getD_some, Array.getElem_toList]
theorem runN_eq {p : Int → Bool} {s : ByteArray} {a i : Nat} (hi : a + i ≤ s.size) (h1 : ∀ j, j < i → p (byteAt s (a + j)) = true) (h2 : a + i = s.size ∨ p (byteAt s (a + i)) = false) : runN p s a = i := by
 have hl := size_toList s
 have g : ∀ j, (s.data.toList.drop a).getD j 0 = s.data.toList.getD (a + j) 0 := fun j => by simp [List.getD_eq_getElem?_getD, List.getElem?_drop]
 refine takeW_len _ 0 _ i (by rw [List.length_drop]; omega) (fun j hj => ?_) ?_
 ·rw [g]; exact h1 j hj
 ·rcases h2 with h2 | h2
  ·left; rw [List.length_drop]; omega
  ·right; rw [g]; exact h2
def stRu (s : ByteArray) (f : FuncId) (nb : Nat) (box : Bxs) (tok : Tks) (nt : Nat) (i : Nat) : AState := ⟨tl [(0, Sb s), (1, .fn (.func f) []), (5, I i)], lb nb box [], tok, nt⟩
theorem run_c (s : ByteArray) (f : FuncId) (p : Int → Bool) (hs : s.size ≤ 200000000000000) (tok : Tks) (nt : Nat) (hf : ∀ c, DCall Tryz.prog f [Ub c] tok nt (B (p c)) tok nt) : DCall Tryz.prog 281 [Sb s, .fn (.func f) []] tok nt (I (runN p s 0)) tok nt := by
 intro box nb
 refine sB Tryz.func281 Tryz.ntmps281 ?_
 intro hbox htok
 simp only at hbox htok
 apply AL.start
 try (simp)
 repeat (refine sR ?_; simp)
 refine sN ?_
 have hc : ∀ c ∈ ([] : List AV), OkIn (fun k => box k ≠ none) (fun _ => True) c := by simp
 refine AL.loopT (stRu s f nb box tok nt) (fun i => i ≤ s.size ∧ ∀ j, j < i → p (byteAt s j) = true) (fun i => s.size - i) 0 ⟨Nat.zero_le _, by omega⟩ (Weaks.mk (Nat.le_refl _) rfl (by simp [ToL, lk]; exact .same (okFn hc hbox [] (by simp) rfl _)) trivial) ?_
 rintro i S' ⟨hi, hok⟩ hS
 simp only [stRu] at hS
 subst hS
 have hw := sW (i := i) (by omega)
 by_cases hlt : i < s.size
 ·have hbb := byteAt_lt hlt
  have hr := runN_eq (p := p) (s := s) (a := 0) (i := i) (by omega) (fun j hj => by rw [Nat.zero_add]; exact hok j hj)
  rw [Nat.zero_add, ← hbb] at hr
  have hok2 : p (s.data[i].toNat) = true → ∀ j, j < i + 1 → p (byteAt s j) = true := fun h j hj => by
   by_cases e : j = i
   ·rw [e, ← hbb]; exact h
   ·exact hok j (by omega)
  try (simp [hlt])
  repeat (refine sR ?_; simp [hlt])
  refine Stop.of_d (hf _) ?_
  simp
  try (simp)
  repeat (refine sR ?_; simp)
  generalize (s.data[i].toNat : Int) = c at *
  cases e : p c
  ·have hr := hr (.inr e)
   refine sC ?_
   simp
   refine sX ?_
   simp only [AU, ↓reduceIte]
   try (simp)
   repeat (refine sR ?_; simp)
   refine sT ?_
   try simp only [AU]
   refine ⟨by simp, sF hbox htok (fun _ h => h) (Nat.le_refl _) ?_⟩
   simp [packA, hr]
  ·refine sC ?_
   simp
   try (simp [hw])
   repeat (refine sR ?_; simp [hw])
   refine sE ?_
   exact ⟨i + 1, ⟨hlt, hok2 e⟩, by omega, Weaks.mk (Nat.le_refl _) rfl (by simp [ToL, lk]; exact .same (okFn hc hbox [] (by simp) rfl _)) trivial⟩
 ·have hie : i = s.size := by omega
  have hr := runN_eq (p := p) (s := s) (a := 0) (i := i) (by omega) (fun j hj => by rw [Nat.zero_add]; exact hok j hj) (.inl (by omega))
  try (simp [hlt])
  repeat (refine sR ?_; simp [hlt])
  refine sC ?_
  simp
  refine sX ?_
  simp only [AU, ↓reduceIte]
  try (simp)
  repeat (refine sR ?_; simp)
  refine sT ?_
  try simp only [AU]
  refine ⟨by simp, sF hbox htok (fun _ h => h) (Nat.le_refl _) ?_⟩
  simp [packA, hr]
end Go.AM
namespace Go.Proofs
open Go.Shelf
def Tryz.lays137_ren : Go.Shelf.Ren := ⟨fun | 137 => 286 | 217 => 293 | 266 => 294 | n => n, fun | 9 => 9 | 5 => 5 | 3 => 3 | n => n, fun | n => n⟩
theorem Tryz.lays137 : Go.Proofs.Lays.n137 Tryz.prog Tryz.lays137_ren := {
 mixed := by kernel_rfl
 f137 := Tryz.func286.trans (congrArg some (by kernel_rfl))
 f217 := Tryz.func293.trans (congrArg some (by kernel_rfl))
 f266 := Tryz.func294.trans (congrArg some (by kernel_rfl))
 t3 := Tryz.underlying3
 a3 := Tryz.isAgg3
 z3 := Tryz.sizeOf3
 v3 := Tryz.zeroValue3
 t5 := Tryz.underlying5
 a5 := Tryz.isAgg5
 z5 := Tryz.sizeOf5
 v5 := Tryz.zeroValue5
 t9 := Tryz.underlying9
 a9 := Tryz.isAgg9
 z9 := Tryz.sizeOf9
 v9 := Tryz.zeroValue9 }
open Go.RowKit in
theorem Tryz.strings_IndexByte (s : ByteArray) (c : Int) (w : World) :
  Calls Tryz.prog 286 #[.string s, .int .u8 c] w fun e w' => e = .returned (.int .i64 (Lib.indexByte s.data.toList c.toNat.toUInt8)) ∧ w' = w := Any.strings_IndexByte Tryz.lays137 s c w
def Tryz.lays112_ren : Go.Shelf.Ren := ⟨fun | 112 => 256 | n => n, fun | 28 => 22 | 3 => 3 | 4 => 4 | 0 => 0 | n => n, fun | n => n⟩
theorem Tryz.lays112 : Go.Proofs.Lays.n112 Tryz.prog Tryz.lays112_ren := {
 mixed := by kernel_rfl
 f112 := Tryz.func256.trans (congrArg some (by kernel_rfl))
 t0 := Tryz.underlying0
 a0 := Tryz.isAgg0
 z0 := Tryz.sizeOf0
 v0 := Tryz.zeroValue0
 t3 := Tryz.underlying3
 a3 := Tryz.isAgg3
 z3 := Tryz.sizeOf3
 v3 := Tryz.zeroValue3
 t4 := Tryz.underlying4
 a4 := Tryz.isAgg4
 z4 := Tryz.sizeOf4
 v4 := Tryz.zeroValue4
 t28 := Tryz.underlying22
 a28 := Tryz.isAgg22
 z28 := Tryz.sizeOf22
 v28 := Tryz.zeroValue22 }
open Go.RowKit Go.Lib Go.Sort in
theorem Tryz.slices_Reverse_int (blk off cap : Nat) (zs : List Int) (w : World) (hH : Holds (Value.int .i64) w blk off zs.toArray) (hsz : zs.length ≤ 9223372036854775807) :
  Calls Tryz.prog 256 #[.slice (some ⟨blk, off, none⟩) zs.length cap] w fun e w' => e = .returned (.tuple #[]) ∧ ∃ n, w' = putRow (Value.int .i64) (Sort.ahead w n) blk off zs.reverse.toArray := Any.slices_Reverse_int Tryz.lays112 blk off cap zs w hH hsz
open Go.RowKit Go.Lib Go.Sort in
theorem Tryz.slices_Reverse_int_empty (a : Option Addr) (cap : Nat) (w : World) :
  Calls Tryz.prog 256 #[.slice a 0 cap] w fun e w' => e = .returned (.tuple #[]) ∧ w' = w := Any.slices_Reverse_int_empty Tryz.lays112 a cap w
end Go.Proofs
namespace Go.AM
open Go Go.Proofs Go.Shelf
theorem seq_iff {a b : ByteArray} : a.toList = b.toList ↔ a = b := ⟨fun h => by rw [ByteArray.toList_eq, ByteArray.toList_eq] at h; exact Go.WideShapes.bytes_inj h, fun h => by rw [h]⟩
theorem seq_dec (a b : ByteArray) : (a.toList == b.toList) = decide (a = b) := by rw [Bool.eq_iff_iff, beq_iff_eq, decide_eq_true_eq, seq_iff]
abbrev strs (l : List ByteArray) : D := .sl 1 (l.map fun s => [.raw (.string s)])
def memS (xs : List ByteArray) (v : ByteArray) : Bool := xs.any fun x => decide (v = x)
theorem memS_iff {xs : List ByteArray} {v : ByteArray} : memS xs v = true ↔ v ∈ xs := by simp [memS]
def indexB (xs : List ByteArray) (v : ByteArray) : Int := if memS xs v = true then (xs.findIdx (fun x => decide (v = x)) : Int) else -1
theorem indexB_nonneg (xs : List ByteArray) (v : ByteArray) : (0 ≤ indexB xs v) ↔ memS xs v = true := by
 unfold indexB
 split <;> simp [*]
def stIs (xs : List ByteArray) (v : ByteArray) (nb : Nat) (box : Bxs) (tok : Tks) (nt : Nat) (i : Nat) : AState := ⟨tl [(0, .d (strs xs)), (1, Sb v), (7, I xs.length), (8, I i)], lb nb box [], tok, nt⟩
theorem strs_at {l : List ByteArray} {i : Nat} (h : i < l.length) : (l.map fun s => [D.raw (.string s)])[i]? = some [D.raw (.string l[i])] := by simp [h]
theorem indexS_c (xs : List ByteArray) (v : ByteArray) (hx : xs.length ≤ 1000000) (tok : Tks) (nt : Nat) : DCall Tryz.prog 287 [.d (strs xs), Sb v] tok nt (I (indexB xs v)) tok nt := by
 intro box nb
 refine sB Tryz.func287 Tryz.ntmps287 ?_
 intro hbox htok
 simp only at hbox htok
 apply AL.start
 try (simp)
 repeat (refine sR ?_; simp)
 refine sN ?_
 refine AL.loopT (stIs xs v nb box tok nt) (fun i => i ≤ xs.length ∧ v ∉ xs.take i) (fun i => xs.length - i) 0 ⟨Nat.zero_le _, by simp⟩ (Weaks.mk (Nat.le_refl _) rfl (by simp [ToL, lk]) trivial) ?_
 rintro i S' ⟨hi, htk⟩ hS
 simp only [stIs] at hS
 subst hS
 have hw := sW (i := i) (by omega)
 try (simp)
 repeat (refine sR ?_; simp)
 refine sC ?_
 simp
 refine ⟨fun hlt => ?_, fun hge => ?_⟩
 ·have hsp : xs = xs.take i ++ xs[i] :: xs.drop (i + 1) := by simp
  by_cases he : v = xs[i]
  ·have b : (v.toList == xs[i].toList) = true := by rw [seq_dec]; simpa using he
   have hmem : memS xs v = true := memS_iff.2 (by rw [he]; exact List.getElem_mem _)
   have hid : xs.findIdx (fun x => decide (v = x)) = i := by
    rw [List.findIdx_eq hlt]
    refine ⟨by simpa using he, fun j hj => ?_⟩
    have : ¬ v = xs[j] := fun e => htk (by rw [e, List.mem_take_iff_getElem]; exact ⟨j, by omega, rfl⟩)
    simpa using this
   try (simp [hlt, b])
   repeat (refine sR ?_; simp [hlt, b])
   refine sC ?_
   simp
   try (simp)
   repeat (refine sR ?_; simp)
   refine sT ?_
   try simp only [AU]
   refine ⟨by simp, sF hbox htok (fun _ h => h) (Nat.le_refl _) ?_⟩
   simp [packA, indexB, hmem, hid]
  ·have b : (v.toList == xs[i].toList) = false := by rw [seq_dec]; simpa using he
   try (simp [hlt, b])
   repeat (refine sR ?_; simp [hlt, b])
   refine sC ?_
   simp
   try (simp [hw])
   repeat (refine sR ?_; simp [hw])
   refine sE ?_
   refine ⟨i + 1, ⟨hlt, ?_⟩, by omega, Weaks.mk (Nat.le_refl _) rfl (by simp [ToL, lk]) trivial⟩
   rw [List.take_succ_eq_append_getElem hlt]
   simp only [List.mem_append, List.mem_singleton, not_or]
   exact ⟨htk, he⟩
 ·refine sX ?_
  simp only [AU, ↓reduceIte]
  try (simp)
  repeat (refine sR ?_; simp)
  have hn : memS xs v = false := by
   rw [List.take_of_length_le hge] at htk
   rw [← Bool.not_eq_true, memS_iff]; exact htk
  refine sT ?_
  try simp only [AU]
  refine ⟨by simp, sF hbox htok (fun _ h => h) (Nat.le_refl _) ?_⟩
  simp [packA, indexB, hn]
theorem containsS_c (xs : List ByteArray) (v : ByteArray) (hx : xs.length ≤ 1000000) (tok : Tks) (nt : Nat) : DCall Tryz.prog 261 [.d (strs xs), Sb v] tok nt (B (memS xs v)) tok nt := by
 intro box nb
 refine sB Tryz.func261 Tryz.ntmps261 ?_
 intro hbox htok
 simp only at hbox htok
 apply AL.start
 try (simp)
 repeat (refine sR ?_; simp)
 refine Stop.of_d (indexS_c xs v hx _ _) ?_
 simp
 try (simp)
 repeat (refine sR ?_; simp)
 refine sT ?_
 try simp only [AU]
 refine ⟨by simp, sF hbox htok (fun _ h => h) (Nat.le_refl _) ?_⟩
 simp [packA, indexB_nonneg]
theorem indexByte_c (s : ByteArray) (c : Int) (tok : Tks) (nt : Nat) : DCall Tryz.prog 286 [Sb s, Ub c] tok nt (I (Lib.indexByte s.data.toList c.toNat.toUInt8)) tok nt := by
 intro box nb
 refine ⟨Enters.mk Tryz.func286 rfl (by kernel_rfl), fun G w vals hm hr => ?_⟩
 obtain ⟨hlen, hrv⟩ := hr
 match vals, hlen with
 | [v, u], _ =>
  have h0 := hrv 0 (by simp) (by simp)
  have h1 := hrv 1 (by simp) (by simp)
  simp only [List.getElem_cons_zero, List.getElem_cons_succ] at h0 h1
  cases h0 with
  | d h0 =>
  cases h0 with
  | raw h0 =>
  cases h1 with
  | d h1 =>
  cases h1 with
  | raw h1 =>
   refine (Tryz.strings_IndexByte s c w).mono ?_
   rintro e w' ⟨rfl, rfl⟩
   exact ⟨_, _, _, G, rfl, ⟨rfl, rfl⟩, rfl, hm, .d (.raw rfl), Le.refl _ _, fun k hk => ⟨hk, rfl⟩⟩
def quoB (c : Int) : Bool := decide (32 ≤ c ∧ c ≤ 126) && c != 34
theorem quoted1_c (c : Int) (tok : Tks) (nt : Nat) : DCall Tryz.prog 292 [Ub c] tok nt (B (quoB c)) tok nt := by
 intro box nb
 by_cases h1 : 32 ≤ c
 ·by_cases h2 : c ≤ 126
  ·refine sB Tryz.func292 Tryz.ntmps292 ?_
   intro hbox htok
   simp only at hbox htok
   apply AL.start
   try (simp [h1, h2])
   repeat (refine sR ?_; simp [h1, h2])
   refine sT ?_
   try simp only [AU]
   refine ⟨by simp, sF hbox htok (fun _ h => h) (Nat.le_refl _) ?_⟩
   simp [packA, quoB, h1, h2]
  ·refine sB Tryz.func292 Tryz.ntmps292 ?_
   intro hbox htok
   simp only at hbox htok
   apply AL.start
   try (simp [h1, h2])
   repeat (refine sR ?_; simp [h1, h2])
   refine sT ?_
   try simp only [AU]
   refine ⟨by simp, sF hbox htok (fun _ h => h) (Nat.le_refl _) ?_⟩
   simp [packA, quoB, h1, h2]
 ·refine sB Tryz.func292 Tryz.ntmps292 ?_
  intro hbox htok
  simp only at hbox htok
  apply AL.start
  try (simp [h1])
  repeat (refine sR ?_; simp [h1])
  refine sT ?_
  try simp only [AU]
  refine ⟨by simp, sF hbox htok (fun _ h => h) (Nat.le_refl _) ?_⟩
  simp [packA, quoB, h1]
end Go.AM
namespace Go.AM
open Go Go.Proofs Go.Shelf
theorem runN_le (p : Int → Bool) (s : ByteArray) (a : Nat) : runN p s a ≤ s.size - a := by
 have h := (List.takeWhile_sublist (l := s.data.toList.drop a) fun b => p (b.toNat : Int)).length_le
 rw [List.length_drop, size_toList] at h
 exact h
theorem ext1_size {s : ByteArray} : (s.extract 1 s.size).size = s.size - 1 := by simp [ByteArray.size_extract]
def quoR (s : ByteArray) : Int × Int :=
 if 1 + runN quoB (s.extract 1 s.size) 0 = s.size then (0, 2) else if byteAt s (1 + runN quoB (s.extract 1 s.size) 0) ≠ 34 then (0, 2)
 else if 60 < runN quoB (s.extract 1 s.size) 0 then (0, 3) else ((runN quoB (s.extract 1 s.size) 0 : Int) + 2, 0)
theorem quoted_c (s : ByteArray) (h1 : 1 ≤ s.size) (hs : s.size ≤ 200000000000000) (tok : Tks) (nt : Nat) : DCall Tryz.prog 284 [Sb s] tok nt (.tup [I (quoR s).1, I (quoR s).2]) tok nt := by
 intro box nb
 have hr := run_c (s.extract 1 s.size) 292 quoB (by rw [ext1_size]; omega) tok nt fun c => quoted1_c c tok nt
 have hle := runN_le quoB (s.extract 1 s.size) 0
 rw [ext1_size] at hle
 have hq : quoR s = if 1 + runN quoB (s.extract 1 s.size) 0 = s.size then (0, 2) else if byteAt s (1 + runN quoB (s.extract 1 s.size) 0) ≠ 34 then (0, 2) else if 60 < runN quoB (s.extract 1 s.size) 0 then (0, 3) else ((runN quoB (s.extract 1 s.size) 0 : Int) + 2, 0) := rfl
 generalize runN quoB (s.extract 1 s.size) 0 = n at *
 have h1' : (1 : Int) ≤ s.size := by omega
 have w1 : IntKind.i64.wrap (1 + (n : Int)) = ((1 + n : Nat) : Int) := by rw [wrap_in (by omega) (by omega)]; omega
 have w2 : IntKind.i64.wrap ((n : Int) + 2) = (n : Int) + 2 := wrap_in (by omega) (by omega)
 refine sB Tryz.func284 Tryz.ntmps284 ?_
 intro hbox htok
 simp only at hbox htok
 apply AL.start
 try (simp [h1, h1'])
 repeat (refine sR ?_; simp [h1, h1'])
 refine Stop.of_d (hr) ?_
 simp
 by_cases e1 : 1 + n = s.size
 ·have b1 : ((1 : Int) + n == s.size) = true := by rw [beq_iff_eq]; omega
  rw [if_pos e1] at hq
  rw [hq]
  try (simp [w1, b1])
  repeat (refine sR ?_; simp [w1, b1])
  refine sC ?_
  simp
  try (simp)
  repeat (refine sR ?_; simp)
  refine sT ?_
  try simp only [AU]
  refine ⟨by simp, sF hbox htok (fun _ h => h) (Nat.le_refl _) ?_⟩
  simp [packA]
 ·have b1 : ((1 : Int) + n == s.size) = false := by rw [beq_eq_false_iff_ne]; omega
  have hlt : 1 + n < s.size := by omega
  have hb := byteAt_lt hlt
  have l1 : (0 : Int) ≤ 1 + n := by omega
  have l2 : (1 : Int) + n < s.size := by omega
  have t1 : ((1 : Int) + n).toNat = 1 + n := by omega
  rw [if_neg e1] at hq
  try (simp [w1, b1, l1, l2, t1, hlt])
  repeat (refine sR ?_; simp [w1, b1, l1, l2, t1, hlt])
  rw [hb]
  by_cases e2 : byteAt s (1 + n) = 34
  ·have b2 : (byteAt s (1 + n) != 34) = false := by simp [e2]
   rw [if_neg (by simp [e2])] at hq
   simp only [b2]
   refine sC ?_
   simp
   try (simp [w2])
   repeat (refine sR ?_; simp [w2])
   by_cases e3 : 60 < n
   ·have e4 : (60 : Int) < n := by omega
    rw [if_pos e3] at hq
    rw [hq]
    refine sC ?_
    simp [e4]
    try (simp)
    repeat (refine sR ?_; simp)
    refine sT ?_
    try simp only [AU]
    refine ⟨by simp, sF hbox htok (fun _ h => h) (Nat.le_refl _) ?_⟩
    simp [packA]
   ·have e4 : ¬ (60 : Int) < n := by omega
    rw [if_neg e3] at hq
    rw [hq]
    refine sC ?_
    simp [e4]
    try (simp [w2])
    repeat (refine sR ?_; simp [w2])
    refine sT ?_
    try simp only [AU]
    refine ⟨by simp, sF hbox htok (fun _ h => h) (Nat.le_refl _) ?_⟩
    simp [packA]
  ·have b2 : (byteAt s (1 + n) != 34) = true := by simp [e2]
   rw [if_pos e2] at hq
   rw [hq]
   simp only [b2]
   refine sC ?_
   simp
   try (simp)
   repeat (refine sR ?_; simp)
   refine sT ?_
   try simp only [AU]
   refine ⟨by simp, sF hbox htok (fun _ h => h) (Nat.le_refl _) ?_⟩
   simp [packA]
def pairL : List ByteArray := [⟨#[45, 62]⟩, ⟨#[60, 61]⟩, ⟨#[62, 61]⟩, ⟨#[61, 61]⟩, ⟨#[33, 61]⟩]
def pairB (s : ByteArray) : Bool := decide (2 ≤ s.size) && memS pairL (s.extract 0 2)
theorem pair_c (s : ByteArray) (hs : s.size ≤ 200000000000000) (tok : Tks) (nt : Nat) : DCall Tryz.prog 285 [Sb s] tok nt (B (pairB s)) tok nt := by
 intro box nb
 by_cases h2 : 2 ≤ s.size
 ·have h2' : (2 : Int) ≤ s.size := by omega
  refine sB Tryz.func285 Tryz.ntmps285 ?_
  intro hbox htok
  simp only at hbox htok
  apply AL.start
  have hc := containsS_c pairL (s.extract 0 2) (by decide)
  try (simp [h2, h2'])
  repeat (refine sR ?_; simp [h2, h2'])
  refine ⟨rfl, ?_⟩
  refine Stop.data ?_
  refine Stop.of_d (hc _ _) ?_
  simp
  try (simp)
  repeat (refine sR ?_; simp)
  refine sT ?_
  try simp only [AU]
  refine ⟨by simp, sF hbox htok (fun _ h => h) (Nat.le_refl _) ?_⟩
  simp [packA, pairB, h2]
 ·have h2' : ¬ (2 : Int) ≤ s.size := by omega
  refine sB Tryz.func285 Tryz.ntmps285 ?_
  intro hbox htok
  simp only at hbox htok
  apply AL.start
  try (simp [h2, h2'])
  repeat (refine sR ?_; simp [h2, h2'])
  refine sT ?_
  try simp only [AU]
  refine ⟨by simp, sF hbox htok (fun _ h => h) (Nat.le_refl _) ?_⟩
  simp [packA, pairB, h2]
def nextR (s : ByteArray) : Int × Int × Int :=
 if letB (byteAt s 0) = true then (if 20 < runN parB s 0 then (0, 0, 3) else (1, runN parB s 0, 0))
 else if digB (byteAt s 0) = true then (if 9 < runN digB s 0 then (0, 0, 3) else (2, runN digB s 0, 0))
 else if byteAt s 0 = 34 then (3, (quoR s).1, (quoR s).2) else if pairB s = true then (4, 2, 0)
 else if 0 ≤ Lib.indexByte [123, 125, 40, 41, 91, 93, 44, 59, 58, 61, 43, 45, 42, 60, 62, 33, 38, 124, 46, 63] (UInt8.ofNat (byteAt s 0).toNat) then (4, 1, 0) else (0, 0, 2)
theorem next_c (s : ByteArray) (h1 : 1 ≤ s.size) (hs : s.size ≤ 200000000000000) (tok : Tks) (nt : Nat) : DCall Tryz.prog 259 [Sb s] tok nt (.tup [I (nextR s).1, I (nextR s).2.1, I (nextR s).2.2]) tok nt := by
 intro box nb
 have hl := letter_c (byteAt s 0)
 have hd := digit_c (byteAt s 0)
 have r1 := run_c s 282 parB hs tok nt fun c => part_c1 c tok nt
 have r2 := run_c s 283 digB hs tok nt fun c => digit_c c tok nt
 have hq := quoted_c s h1 hs
 have hp := pair_c s hs
 have hx := fun q => indexByte_c q (byteAt s 0)
 have h0 : 0 < s.size := h1
 have h0' : (0 : Int) < s.size := by omega
 have hb := byteAt_lt h0
 obtain ⟨N, hN⟩ : ∃ N, nextR s = N := ⟨_, rfl⟩
 rw [hN]
 unfold nextR at hN
 have n1 : runN parB s 0 ≤ s.size := runN_le _ _ _
 have n2 : runN digB s 0 ≤ s.size := runN_le _ _ _
 generalize runN parB s 0 = a1 at *
 generalize runN digB s 0 = a2 at *
 refine sB Tryz.func259 Tryz.ntmps259 ?_
 intro hbox htok
 simp only at hbox htok
 apply AL.start
 try (simp [h0, h0'])
 repeat (refine sR ?_; simp [h0, h0'])
 rw [hb]
 refine Stop.of_d (hl _ _) ?_
 simp
 try (simp)
 repeat (refine sR ?_; simp)
 cases e1 : letB (byteAt s 0)
 ·rw [if_neg (by simp [e1])] at hN
  refine sC ?_
  simp
  try (simp)
  repeat (refine sR ?_; simp)
  refine Stop.of_d (hd _ _) ?_
  simp
  try (simp)
  repeat (refine sR ?_; simp)
  cases e2 : digB (byteAt s 0)
  ·rw [if_neg (by simp [e2])] at hN
   refine sC ?_
   simp
   try (simp)
   repeat (refine sR ?_; simp)
   by_cases e3 : byteAt s 0 = 34
   ·rw [if_pos e3] at hN
    have b3 : (byteAt s 0 == 34) = true := by simp [e3]
    simp only [b3]
    refine sC ?_
    simp
    try (simp)
    repeat (refine sR ?_; simp)
    refine Stop.of_d (hq _ _) ?_
    simp
    try (simp)
    repeat (refine sR ?_; simp)
    refine sT ?_
    try simp only [AU]
    refine ⟨by simp, sF hbox htok (fun _ h => h) (Nat.le_refl _) ?_⟩
    simp [packA, ← hN]
   ·rw [if_neg e3] at hN
    have b3 : (byteAt s 0 == 34) = false := by simp [e3]
    simp only [b3]
    refine sC ?_
    simp
    try (simp)
    repeat (refine sR ?_; simp)
    refine Stop.of_d (hp _ _) ?_
    simp
    try (simp)
    repeat (refine sR ?_; simp)
    cases e4 : pairB s
    ·rw [if_neg (by simp [e4])] at hN
     refine sC ?_
     simp
     try (simp)
     repeat (refine sR ?_; simp)
     refine Stop.of_d (hx _ _ _) ?_
     simp
     try (simp)
     repeat (refine sR ?_; simp)
     by_cases e5 : 0 ≤ Lib.indexByte [123, 125, 40, 41, 91, 93, 44, 59, 58, 61, 43, 45, 42, 60, 62, 33, 38, 124, 46, 63] (UInt8.ofNat (byteAt s 0).toNat)
     ·rw [if_pos e5] at hN
      refine sC ?_
      simp [e5]
      try (simp)
      repeat (refine sR ?_; simp)
      refine sT ?_
      try simp only [AU]
      refine ⟨by simp, sF hbox htok (fun _ h => h) (Nat.le_refl _) ?_⟩
      simp [packA, ← hN]
     ·rw [if_neg e5] at hN
      refine sC ?_
      simp [e5]
      try (simp)
      repeat (refine sR ?_; simp)
      refine sT ?_
      try simp only [AU]
      refine ⟨by simp, sF hbox htok (fun _ h => h) (Nat.le_refl _) ?_⟩
      simp [packA, ← hN]
    ·rw [if_pos e4] at hN
     refine sC ?_
     simp
     try (simp)
     repeat (refine sR ?_; simp)
     refine sT ?_
     try simp only [AU]
     refine ⟨by simp, sF hbox htok (fun _ h => h) (Nat.le_refl _) ?_⟩
     simp [packA, ← hN]
  ·rw [if_pos e2] at hN
   refine sC ?_
   simp
   try (simp)
   repeat (refine sR ?_; simp)
   refine Stop.of_d (r2) ?_
   simp
   try (simp)
   repeat (refine sR ?_; simp)
   by_cases e3 : 9 < a2
   ·have e4 : (9 : Int) < a2 := by omega
    rw [if_pos e3] at hN
    refine sC ?_
    simp [e4]
    try (simp)
    repeat (refine sR ?_; simp)
    refine sT ?_
    try simp only [AU]
    refine ⟨by simp, sF hbox htok (fun _ h => h) (Nat.le_refl _) ?_⟩
    simp [packA, ← hN]
   ·have e4 : ¬ (9 : Int) < a2 := by omega
    rw [if_neg e3] at hN
    refine sC ?_
    simp [e4]
    try (simp)
    repeat (refine sR ?_; simp)
    refine sT ?_
    try simp only [AU]
    refine ⟨by simp, sF hbox htok (fun _ h => h) (Nat.le_refl _) ?_⟩
    simp [packA, ← hN]
 ·rw [if_pos e1] at hN
  refine sC ?_
  simp
  try (simp)
  repeat (refine sR ?_; simp)
  refine Stop.of_d (r1) ?_
  simp
  try (simp)
  repeat (refine sR ?_; simp)
  by_cases e3 : 20 < a1
  ·have e4 : (20 : Int) < a1 := by omega
   rw [if_pos e3] at hN
   refine sC ?_
   simp [e4]
   try (simp)
   repeat (refine sR ?_; simp)
   refine sT ?_
   try simp only [AU]
   refine ⟨by simp, sF hbox htok (fun _ h => h) (Nat.le_refl _) ?_⟩
   simp [packA, ← hN]
  ·have e4 : ¬ (20 : Int) < a1 := by omega
   rw [if_neg e3] at hN
   refine sC ?_
   simp [e4]
   try (simp)
   repeat (refine sR ?_; simp)
   refine sT ?_
   try simp only [AU]
   refine ⟨by simp, sF hbox htok (fun _ h => h) (Nat.le_refl _) ?_⟩
   simp [packA, ← hN]
end Go.AM
namespace Go.AM
open Go Go.Proofs Go.Shelf
def nameB (s : ByteArray) : Bool := decide (1 ≤ s.size ∧ s.size ≤ 20) && letB (byteAt s 0) && decide (runN parB s 0 = s.size)
theorem nameB_next {s : ByteArray} (h1 : 1 ≤ s.size) : ((decide ((nextR s).2.2 = 0) && decide ((nextR s).1 = 1)) && decide ((nextR s).2.1 = (s.size : Int))) = nameB s := by
 unfold nameB nextR
 by_cases e1 : letB (byteAt s 0) = true
 ·rw [if_pos e1]
  by_cases e2 : 20 < runN parB s 0
  ·rw [if_pos e2]
   have : ¬ ((1 ≤ s.size ∧ s.size ≤ 20) ∧ runN parB s 0 = s.size) := by omega
   rw [Bool.eq_iff_iff]
   simp [e1]
   omega
  ·rw [if_neg e2]
   rw [Bool.eq_iff_iff]
   simp [e1]
   omega
 ·rw [if_neg e1]
  have e1' : letB (byteAt s 0) = false := by simpa using e1
  rw [e1']
  simp only [Bool.and_false, Bool.false_and]
  split
  ·split <;> simp
  ·split
   ·simp
   ·split
    ·simp
    ·split <;> simp
theorem empty_dec {s : ByteArray} : (s.toList == (⟨#[]⟩ : ByteArray).toList) = decide (s.size = 0) := by
 rw [seq_dec, Bool.eq_iff_iff, decide_eq_true_eq, decide_eq_true_eq]
 constructor
 ·rintro rfl; rfl
 ·intro h
  obtain ⟨⟨l⟩⟩ := s
  cases l with
  | nil => rfl
  | cons x r => simp [ByteArray.size] at h
theorem wholeN_c (s : ByteArray) (hs : s.size ≤ 200000000000000) (tok : Tks) (nt : Nat) : DCall Tryz.prog 230 [.agg [I 1, Sb s, I 0]] tok nt (.tup [Sb s, B (nameB s)]) tok nt := by
 intro box nb
 by_cases h0 : s.size = 0
 ·have b0 : (s.toList == (⟨#[]⟩ : ByteArray).toList) = true := by rw [empty_dec]; simp [h0]
  have hse : s = ⟨#[]⟩ := by rw [seq_dec] at b0; simpa using b0
  have hn : nameB s = false := by simp [nameB, h0]
  rw [hn]
  refine sB Tryz.func230 Tryz.ntmps230 ?_
  intro hbox htok
  simp only at hbox htok
  apply AL.start
  try (simp)
  repeat (refine sR ?_; simp)
  refine sC ?_
  simp
  have b1 : s.toList = [] := by simpa using b0
  try (simp)
  repeat (refine sR ?_; simp)
  refine sC ?_
  simp [b1]
  try (simp)
  repeat (refine sR ?_; simp)
  refine sT ?_
  try simp only [AU]
  refine ⟨by simp, sF hbox htok (fun _ h => h) (Nat.le_refl _) ?_⟩
  simp [packA, hse]
 ·have b0 : (s.toList == (⟨#[]⟩ : ByteArray).toList) = false := by rw [empty_dec]; simp [h0]
  have hx := next_c s (by omega) hs
  have hnb := nameB_next (s := s) (by omega)
  generalize nextR s = N at *
  refine sB Tryz.func230 Tryz.ntmps230 ?_
  intro hbox htok
  simp only at hbox htok
  apply AL.start
  try (simp)
  repeat (refine sR ?_; simp)
  refine sC ?_
  simp
  have b1 : ¬ s.toList = [] := by simpa using b0
  try (simp)
  repeat (refine sR ?_; simp)
  refine sC ?_
  simp [b1]
  try (simp)
  repeat (refine sR ?_; simp)
  refine Stop.of_d (hx _ _) ?_
  simp
  by_cases f1 : N.2.2 = 0
  ·have g1 : (N.2.2 == 0) = true := by simp [f1]
   by_cases f2 : N.1 = 1
   ·have g2 : (N.1 == 1) = true := by simp [f2]
    try (simp [g1, g2])
    repeat (refine sR ?_; simp [g1, g2])
    by_cases f3 : N.2.1 = (s.size : Int)
    ·have g3 : (N.2.1 == (s.size : Int)) = true := by simp [f3]
     rw [← hnb]
     refine sT ?_
     try simp only [AU]
     refine ⟨by simp, sF hbox htok (fun _ h => h) (Nat.le_refl _) ?_⟩
     simp [packA, f1, f2, f3, g3]
    ·have g3 : (N.2.1 == (s.size : Int)) = false := by simp [f3]
     rw [← hnb]
     refine sT ?_
     try simp only [AU]
     refine ⟨by simp, sF hbox htok (fun _ h => h) (Nat.le_refl _) ?_⟩
     simp [packA, f1, f2, f3, g3]
   ·have g2 : (N.1 == 1) = false := by simp [f2]
    rw [← hnb]
    try (simp [g1, g2])
    repeat (refine sR ?_; simp [g1, g2])
    refine sT ?_
    try simp only [AU]
    refine ⟨by simp, sF hbox htok (fun _ h => h) (Nat.le_refl _) ?_⟩
    simp [packA, f1, f2]
  ·have g1 : (N.2.2 == 0) = false := by simp [f1]
   rw [← hnb]
   try (simp [g1])
   repeat (refine sR ?_; simp [g1])
   refine sT ?_
   try simp only [AU]
   refine ⟨by simp, sF hbox htok (fun _ h => h) (Nat.le_refl _) ?_⟩
   simp [packA, f1]
theorem isName_c (s : ByteArray) (hs : s.size ≤ 200000000000000) (tok : Tks) (nt : Nat) : DCall Tryz.prog 186 [Sb s] tok nt (B (nameB s)) tok nt := by
 intro box nb
 have h := wholeN_c s hs
 refine sB Tryz.func186 Tryz.ntmps186 ?_
 intro hbox htok
 simp only at hbox htok
 apply AL.start
 try (simp)
 repeat (refine sR ?_; simp)
 refine Stop.of_d (h _ _) ?_
 simp
 try (simp)
 repeat (refine sR ?_; simp)
 refine sT ?_
 try simp only [AU]
 refine ⟨by simp, sF hbox htok (fun _ h => h) (Nat.le_refl _) ?_⟩
 simp [packA]
end Go.AM
namespace Go.AM
open Go Go.Proofs Go.Shelf
end Go.AM
namespace Go.AM
open Go Go.Proofs Go.Shelf
end Go.AM
namespace Go.AM
open Go Go.Proofs Go.Shelf
end Go.AM
namespace Go.AM
open Go Go.Proofs
structure At where
 name : ByteArray
 lo : Int
 hi : Int
 names : List ByteArray
structure NT where
 name : ByteArray
 par : Int
 abs : Bool
 own : List At
structure ET where
 name : ByteArray
 fr : Int
 to : Int
 ol : Int
 oh : Int
 il : Int
 ih : Int
structure Ty where
 nodes : List NT
 edges : List ET
abbrev At.cells (a : At) : List D := [.raw (.string a.name), .raw (.int .i64 a.lo), .raw (.int .i64 a.hi), strs a.names]
abbrev atts (l : List At) : D := .sl 4 (l.map At.cells)
abbrev NT.cells (n : NT) : List D := [.raw (.string n.name), .raw (.int .i64 n.par), .raw (.bool n.abs), atts n.own]
abbrev ET.cells (e : ET) : List D := [.raw (.string e.name), .raw (.int .i64 e.fr), .raw (.int .i64 e.to), .raw (.int .i64 e.ol), .raw (.int .i64 e.oh), .raw (.int .i64 e.il), .raw (.int .i64 e.ih)]
abbrev nts (l : List NT) : D := .sl 4 (l.map NT.cells)
abbrev ets (l : List ET) : D := .sl 7 (l.map ET.cells)
abbrev Ty.av (t : Ty) : AV := .agg [.d (nts t.nodes), .d (ets t.edges)]
instance : Inhabited ByteArray := ⟨⟨#[]⟩⟩
abbrev eB : ByteArray := ⟨#[]⟩
def nmsAt (l : List ByteArray) (i : Nat) : Int := if nameB (l.getD i eB) = false then 2 else if memS (l.take i) (l.getD i eB) = true then 5 else 0
def nmsE (l : List ByteArray) : Int := if 20 < l.length then 3 else firstE (nmsAt l) l.length
structure NmFit (l : List ByteArray) : Prop where
 n : l.length ≤ 1000000
 s : ∀ x ∈ l, x.size ≤ 1000000000000
theorem strs_take (l : List ByteArray) (i : Nat) : strs (l.take i) = .sl 1 (List.take i (l.map fun s => [D.raw (.string s)])) := by rw [strs, List.map_take]
def stNm (l : List ByteArray) (nb : Nat) (box : Bxs) (tok : Tks) (nt : Nat) (i : Nat) : AState := ⟨tl [(10, I i), (9, I l.length), (8, .d (strs l)), (0, .d (strs l))], lb nb box [], tok, nt⟩
theorem names_c (l : List ByteArray) (hl : NmFit l) (tok : Tks) (nt : Nat) : DCall Tryz.prog 233 [.d (strs l)] tok nt (I (nmsE l)) tok nt := by
 intro box nb
 have hln := hl.n
 by_cases h20 : 20 < l.length
 ·have h20' : (20 : Int) < l.length := by omega
  rw [show nmsE l = 3 from if_pos h20]
  refine sB Tryz.func233 Tryz.ntmps233 ?_
  intro hbox htok
  simp only at hbox htok
  apply AL.start
  try (simp [h20'])
  repeat (refine sR ?_; simp [h20'])
  refine sC ?_
  simp
  try (simp)
  repeat (refine sR ?_; simp)
  refine sT ?_
  try simp only [AU]
  refine ⟨by simp, sF hbox htok (fun _ h => h) (Nat.le_refl _) ?_⟩
  simp [packA]
 ·have h20' : ¬ (20 : Int) < l.length := by omega
  have hE : nmsE l = firstE (nmsAt l) l.length := if_neg h20
  refine sB Tryz.func233 Tryz.ntmps233 ?_
  intro hbox htok
  simp only at hbox htok
  apply AL.start
  try (simp [h20'])
  repeat (refine sR ?_; simp [h20'])
  refine sC ?_
  simp
  try (simp)
  repeat (refine sR ?_; simp)
  refine sN ?_
  refine AL.loopT (stNm l nb box tok nt) (fun i => i ≤ l.length ∧ firstE (nmsAt l) i = 0) (fun i => l.length - i) 0 ⟨Nat.zero_le _, rfl⟩ (Weaks.mk (Nat.le_refl _) rfl (by simp [ToL, lk]) trivial) ?_
  rintro i S' ⟨hi, hok⟩ hS
  simp only [stNm] at hS
  subst hS
  have hw := sW (i := i) (by omega)
  have hR : i < l.length → nmsAt l i ≠ 0 → firstE (nmsAt l) l.length = nmsAt l i := fun hlt h0 => firstE_stop hok h0 l.length hlt
  try (simp)
  repeat (refine sR ?_; simp)
  refine sC ?_
  simp
  refine ⟨fun hlt => ?_, fun hge => ?_⟩
  ·have hg : l.getD i eB = l[i] := by simp [hlt]
   have hA : nmsAt l i = if nameB l[i] = false then 2 else if memS (l.take i) l[i] = true then 5 else 0 := by rw [nmsAt, hg]
   have hn := isName_c l[i] (Nat.le_trans (hl.s _ (List.getElem_mem hlt)) (by decide))
   have hc := containsS_c (l.take i) l[i] (by simp; omega)
   have hR := hR hlt
   try (simp [hlt, strs_at hlt])
   repeat (refine sR ?_; simp [hlt, strs_at hlt])
   refine Stop.of_d (hn _ _) ?_
   simp
   cases e1 : nameB l[i]
   ·rw [e1, if_pos rfl] at hA
    rw [hA] at hR
    have hR := hR (by decide)
    try (simp)
    repeat (refine sR ?_; simp)
    refine sC ?_
    simp
    try (simp)
    repeat (refine sR ?_; simp)
    refine sT ?_
    try simp only [AU]
    refine ⟨by simp, sF hbox htok (fun _ h => h) (Nat.le_refl _) ?_⟩
    simp [packA, hE, hR]
   ·rw [e1, if_neg (by simp)] at hA
    try (simp)
    repeat (refine sR ?_; simp)
    refine sC ?_
    simp
    try (simp)
    repeat (refine sR ?_; simp)
    refine ⟨by omega, ?_⟩
    rw [strs_take] at hc
    refine Stop.of_d (hc _ _) ?_
    simp
    cases e2 : memS (l.take i) l[i]
    ·rw [e2, if_neg (by simp)] at hA
     try (simp)
     repeat (refine sR ?_; simp)
     refine sC ?_
     simp
     try (simp [hw])
     repeat (refine sR ?_; simp [hw])
     refine sE ?_
     exact ⟨i + 1, ⟨hlt, by simp only [firstE, hok, hA, ↓reduceIte]⟩, by omega, Weaks.mk (Nat.le_refl _) rfl (by simp [ToL, lk]) trivial⟩
    ·rw [e2, if_pos rfl] at hA
     rw [hA] at hR
     have hR := hR (by decide)
     try (simp)
     repeat (refine sR ?_; simp)
     refine sC ?_
     simp
     try (simp)
     repeat (refine sR ?_; simp)
     refine sT ?_
     try simp only [AU]
     refine ⟨by simp, sF hbox htok (fun _ h => h) (Nat.le_refl _) ?_⟩
     simp [packA, hE, hR]
  ·refine sX ?_
   simp only [AU, ↓reduceIte]
   try (simp)
   repeat (refine sR ?_; simp)
   have : i = l.length := by omega
   subst this
   refine sT ?_
   try simp only [AU]
   refine ⟨by simp, sF hbox htok (fun _ h => h) (Nat.le_refl _) ?_⟩
   simp [packA, hE, hok]
end Go.AM
namespace Go.AM
open Go Go.Proofs
abbrev At.av (a : At) : AV := .agg [Sb a.name, I a.lo, I a.hi, .d (strs a.names)]
abbrev NT.av (n : NT) : AV := .agg [Sb n.name, I n.par, B n.abs, .d (atts n.own)]
abbrev ET.av (e : ET) : AV := .agg [Sb e.name, I e.fr, I e.to, I e.ol, I e.oh, I e.il, I e.ih]
theorem any_takeG {α : Type} {p : α → Bool} {xs : List α} {i : Nat} (h : i < xs.length) (h1 : ∀ x ∈ xs.take i, p x = false) (h2 : p xs[i] = true) : anyB p xs = true ∧ xs.findIdx p = i := by
 refine ⟨List.any_eq_true.2 ⟨_, List.getElem_mem h, h2⟩, ?_⟩
 rw [List.findIdx_eq h]
 refine ⟨h2, fun j hj => ?_⟩
 have := h1 xs[j] (by
  rw [List.mem_take_iff_getElem]
  exact ⟨j, by omega, rfl⟩)
 simpa using this
def stIA (xs : List At) (f : FuncId) (caps : List AV) (nb : Nat) (box : Bxs) (tok : Tks) (nt : Nat) (i : Nat) : AState := ⟨tl [(0, .d (atts xs)), (1, .fn (.func f) caps), (7, I xs.length), (8, I i)], lb nb box [], tok, nt⟩
theorem indexFuncA_c (xs : List At) (f : FuncId) (caps : List AV) (p : At → Bool) (hx : xs.length ≤ 1000000) (box : Bxs) (nb : Nat) (tok : Tks) (nt : Nat) (hc : ∀ c ∈ caps, OkIn (fun k => box k ≠ none) (fun _ => True) c)
  (hf : ∀ x ∈ xs, ∀ box' nb', Ext box box' → ACalls Tryz.prog f (x.av :: caps) ⟨box', nb', tok, nt⟩ fun v m => v = B (p x) ∧ m = ⟨box', nb', tok, nt⟩) :
  ACalls Tryz.prog 260 [.d (atts xs), .fn (.func f) caps] ⟨box, nb, tok, nt⟩ fun v m => v = I (if anyB p xs = true then (xs.findIdx p : Nat) else -1) ∧ m = ⟨box, nb, tok, nt⟩ := by
 refine sB Tryz.func260 Tryz.ntmps260 ?_
 intro hbox htok
 simp only at hbox htok
 apply AL.start
 try (simp)
 repeat (refine sR ?_; simp)
 refine sN ?_
 refine AL.loopT (stIA xs f caps nb box tok nt) (fun i => i ≤ xs.length ∧ ∀ x ∈ xs.take i, p x = false) (fun i => xs.length - i) 0 ⟨Nat.zero_le _, by simp⟩ (Weaks.mk (Nat.le_refl _) rfl (by simp [ToL]; exact .same (okFn hc hbox [] (by simp) rfl _)) trivial) ?_
 rintro i S' ⟨hi, htk⟩ hS
 simp only [stIA] at hS
 subst hS
 have hw := sW (i := i) (by omega)
 try (simp)
 repeat (refine sR ?_; simp)
 refine sC ?_
 simp
 refine ⟨fun hlt => ?_, fun hge => ?_⟩
 ·have hfx := hf xs[i] (List.getElem_mem _)
  have hpx : p xs[i] = true → anyB p xs = true ∧ (xs.findIdx p = i) := fun he => any_takeG hlt htk he
  have hmore : p xs[i] = false → ∀ x ∈ xs.take (i + 1), p x = false := fun he x hx => by
   rw [List.take_succ_eq_append_getElem hlt] at hx
   rcases List.mem_append.1 hx with hx | hx
   ·exact htk x hx
   ·simp at hx; rw [hx]; exact he
  try (simp [hlt])
  repeat (refine sR ?_; simp [hlt])
  generalize xs[i] = x at *
  refine Stop.of_b (hfx _ _ ((Ext.refl box).lb hbox [])) ?_
  simp
  cases he : p x
  ·refine sC ?_
   simp
   try (simp [hw])
   repeat (refine sR ?_; simp [hw])
   refine sE ?_
   refine ⟨i + 1, ⟨hlt, ?_⟩, by omega, Weaks.mk (Nat.le_refl _) rfl (by simp [ToL]; exact .same (okFn hc hbox [] (by simp) rfl _)) trivial⟩
   exact hmore he
  ·obtain ⟨h1, h2⟩ := hpx he
   refine sC ?_
   simp
   try (simp)
   repeat (refine sR ?_; simp)
   refine sT ?_
   try simp only [AU]
   refine ⟨by simp, sF hbox htok (fun _ h => h) (Nat.le_refl _) ?_⟩
   simp [packA, h1, h2]
 ·have hn : anyB p xs = false := by
   rw [List.take_of_length_le hge] at htk
   simpa [anyB] using htk
  refine sX ?_
  simp only [AU, ↓reduceIte]
  try (simp)
  repeat (refine sR ?_; simp)
  refine sT ?_
  try simp only [AU]
  refine ⟨by simp, sF hbox htok (fun _ h => h) (Nat.le_refl _) ?_⟩
  simp [packA, hn]
theorem containsFuncA_c (xs : List At) (f : FuncId) (caps : List AV) (p : At → Bool) (hx : xs.length ≤ 1000000) (box : Bxs) (nb : Nat) (tok : Tks) (nt : Nat) (hc : ∀ c ∈ caps, OkIn (fun k => box k ≠ none) (fun _ => True) c)
  (hf : ∀ x ∈ xs, ∀ box' nb', Ext box box' → ACalls Tryz.prog f (x.av :: caps) ⟨box', nb', tok, nt⟩ fun v m => v = B (p x) ∧ m = ⟨box', nb', tok, nt⟩) :
  ACalls Tryz.prog 231 [.d (atts xs), .fn (.func f) caps] ⟨box, nb, tok, nt⟩ fun v m => v = B (anyB p xs) ∧ m = ⟨box, nb, tok, nt⟩ := by
 obtain ⟨A, hany⟩ : ∃ A, anyB p xs = A := ⟨_, rfl⟩
 have hi := fun b nb' h1 h2 => indexFuncA_c xs f caps p hx b nb' tok nt h1 h2
 rw [hany]
 simp only [hany] at hi
 refine sB Tryz.func231 Tryz.ntmps231 ?_
 intro hbox htok
 simp only at hbox htok
 apply AL.start
 try (simp)
 repeat (refine sR ?_; simp)
 refine Stop.of_b (hi (lb nb box []) _ (fun c h => (hc c h).mono (fun k hk => by rw [hbox]; exact hk) fun _ h => h) (fun x hx' box' nb' he => hf x hx' box' nb' (by rw [hbox] at he; exact he))) ?_
 simp
 cases A
 ·try (simp)
  repeat (refine sR ?_; simp)
  refine sT ?_
  try simp only [AU]
  refine ⟨by simp, sF hbox htok (fun _ h => h) (Nat.le_refl _) ?_⟩
  simp [packA]
 ·have h0 : (0 : Int) ≤ (xs.findIdx p : Nat) := by omega
  try (simp)
  repeat (refine sR ?_; simp)
  refine sT ?_
  try simp only [AU]
  refine ⟨by simp, sF hbox htok (fun _ h => h) (Nat.le_refl _) ?_⟩
  simp [packA, h0]
def stIN (xs : List NT) (f : FuncId) (caps : List AV) (nb : Nat) (box : Bxs) (tok : Tks) (nt : Nat) (i : Nat) : AState := ⟨tl [(0, .d (nts xs)), (1, .fn (.func f) caps), (7, I xs.length), (8, I i)], lb nb box [], tok, nt⟩
theorem indexFuncN_c (xs : List NT) (f : FuncId) (caps : List AV) (p : NT → Bool) (hx : xs.length ≤ 1000000) (box : Bxs) (nb : Nat) (tok : Tks) (nt : Nat) (hc : ∀ c ∈ caps, OkIn (fun k => box k ≠ none) (fun _ => True) c)
  (hf : ∀ x ∈ xs, ∀ box' nb', Ext box box' → ACalls Tryz.prog f (x.av :: caps) ⟨box', nb', tok, nt⟩ fun v m => v = B (p x) ∧ m = ⟨box', nb', tok, nt⟩) :
  ACalls Tryz.prog 223 [.d (nts xs), .fn (.func f) caps] ⟨box, nb, tok, nt⟩ fun v m => v = I (if anyB p xs = true then (xs.findIdx p : Nat) else -1) ∧ m = ⟨box, nb, tok, nt⟩ := by
 refine sB Tryz.func223 Tryz.ntmps223 ?_
 intro hbox htok
 simp only at hbox htok
 apply AL.start
 try (simp)
 repeat (refine sR ?_; simp)
 refine sN ?_
 refine AL.loopT (stIN xs f caps nb box tok nt) (fun i => i ≤ xs.length ∧ ∀ x ∈ xs.take i, p x = false) (fun i => xs.length - i) 0 ⟨Nat.zero_le _, by simp⟩ (Weaks.mk (Nat.le_refl _) rfl (by simp [ToL]; exact .same (okFn hc hbox [] (by simp) rfl _)) trivial) ?_
 rintro i S' ⟨hi, htk⟩ hS
 simp only [stIN] at hS
 subst hS
 have hw := sW (i := i) (by omega)
 try (simp)
 repeat (refine sR ?_; simp)
 refine sC ?_
 simp
 refine ⟨fun hlt => ?_, fun hge => ?_⟩
 ·have hfx := hf xs[i] (List.getElem_mem _)
  have hpx : p xs[i] = true → anyB p xs = true ∧ (xs.findIdx p = i) := fun he => any_takeG hlt htk he
  have hmore : p xs[i] = false → ∀ x ∈ xs.take (i + 1), p x = false := fun he x hx => by
   rw [List.take_succ_eq_append_getElem hlt] at hx
   rcases List.mem_append.1 hx with hx | hx
   ·exact htk x hx
   ·simp at hx; rw [hx]; exact he
  try (simp [hlt])
  repeat (refine sR ?_; simp [hlt])
  generalize xs[i] = x at *
  refine Stop.of_b (hfx _ _ ((Ext.refl box).lb hbox [])) ?_
  simp
  cases he : p x
  ·refine sC ?_
   simp
   try (simp [hw])
   repeat (refine sR ?_; simp [hw])
   refine sE ?_
   refine ⟨i + 1, ⟨hlt, ?_⟩, by omega, Weaks.mk (Nat.le_refl _) rfl (by simp [ToL]; exact .same (okFn hc hbox [] (by simp) rfl _)) trivial⟩
   exact hmore he
  ·obtain ⟨h1, h2⟩ := hpx he
   refine sC ?_
   simp
   try (simp)
   repeat (refine sR ?_; simp)
   refine sT ?_
   try simp only [AU]
   refine ⟨by simp, sF hbox htok (fun _ h => h) (Nat.le_refl _) ?_⟩
   simp [packA, h1, h2]
 ·have hn : anyB p xs = false := by
   rw [List.take_of_length_le hge] at htk
   simpa [anyB] using htk
  refine sX ?_
  simp only [AU, ↓reduceIte]
  try (simp)
  repeat (refine sR ?_; simp)
  refine sT ?_
  try simp only [AU]
  refine ⟨by simp, sF hbox htok (fun _ h => h) (Nat.le_refl _) ?_⟩
  simp [packA, hn]
theorem containsFuncN_c (xs : List NT) (f : FuncId) (caps : List AV) (p : NT → Bool) (hx : xs.length ≤ 1000000) (box : Bxs) (nb : Nat) (tok : Tks) (nt : Nat) (hc : ∀ c ∈ caps, OkIn (fun k => box k ≠ none) (fun _ => True) c)
  (hf : ∀ x ∈ xs, ∀ box' nb', Ext box box' → ACalls Tryz.prog f (x.av :: caps) ⟨box', nb', tok, nt⟩ fun v m => v = B (p x) ∧ m = ⟨box', nb', tok, nt⟩) :
  ACalls Tryz.prog 170 [.d (nts xs), .fn (.func f) caps] ⟨box, nb, tok, nt⟩ fun v m => v = B (anyB p xs) ∧ m = ⟨box, nb, tok, nt⟩ := by
 obtain ⟨A, hany⟩ : ∃ A, anyB p xs = A := ⟨_, rfl⟩
 have hi := fun b nb' h1 h2 => indexFuncN_c xs f caps p hx b nb' tok nt h1 h2
 rw [hany]
 simp only [hany] at hi
 refine sB Tryz.func170 Tryz.ntmps170 ?_
 intro hbox htok
 simp only at hbox htok
 apply AL.start
 try (simp)
 repeat (refine sR ?_; simp)
 refine Stop.of_b (hi (lb nb box []) _ (fun c h => (hc c h).mono (fun k hk => by rw [hbox]; exact hk) fun _ h => h) (fun x hx' box' nb' he => hf x hx' box' nb' (by rw [hbox] at he; exact he))) ?_
 simp
 cases A
 ·try (simp)
  repeat (refine sR ?_; simp)
  refine sT ?_
  try simp only [AU]
  refine ⟨by simp, sF hbox htok (fun _ h => h) (Nat.le_refl _) ?_⟩
  simp [packA]
 ·have h0 : (0 : Int) ≤ (xs.findIdx p : Nat) := by omega
  try (simp)
  repeat (refine sR ?_; simp)
  refine sT ?_
  try simp only [AU]
  refine ⟨by simp, sF hbox htok (fun _ h => h) (Nat.le_refl _) ?_⟩
  simp [packA, h0]
def stIE2 (xs : List ET) (f : FuncId) (caps : List AV) (nb : Nat) (box : Bxs) (tok : Tks) (nt : Nat) (i : Nat) : AState := ⟨tl [(0, .d (ets xs)), (1, .fn (.func f) caps), (7, I xs.length), (8, I i)], lb nb box [], tok, nt⟩
theorem indexFuncE2_c (xs : List ET) (f : FuncId) (caps : List AV) (p : ET → Bool) (hx : xs.length ≤ 1000000) (box : Bxs) (nb : Nat) (tok : Tks) (nt : Nat) (hc : ∀ c ∈ caps, OkIn (fun k => box k ≠ none) (fun _ => True) c)
  (hf : ∀ x ∈ xs, ∀ box' nb', Ext box box' → ACalls Tryz.prog f (x.av :: caps) ⟨box', nb', tok, nt⟩ fun v m => v = B (p x) ∧ m = ⟨box', nb', tok, nt⟩) :
  ACalls Tryz.prog 234 [.d (ets xs), .fn (.func f) caps] ⟨box, nb, tok, nt⟩ fun v m => v = I (if anyB p xs = true then (xs.findIdx p : Nat) else -1) ∧ m = ⟨box, nb, tok, nt⟩ := by
 refine sB Tryz.func234 Tryz.ntmps234 ?_
 intro hbox htok
 simp only at hbox htok
 apply AL.start
 try (simp)
 repeat (refine sR ?_; simp)
 refine sN ?_
 refine AL.loopT (stIE2 xs f caps nb box tok nt) (fun i => i ≤ xs.length ∧ ∀ x ∈ xs.take i, p x = false) (fun i => xs.length - i) 0 ⟨Nat.zero_le _, by simp⟩ (Weaks.mk (Nat.le_refl _) rfl (by simp [ToL]; exact .same (okFn hc hbox [] (by simp) rfl _)) trivial) ?_
 rintro i S' ⟨hi, htk⟩ hS
 simp only [stIE2] at hS
 subst hS
 have hw := sW (i := i) (by omega)
 try (simp)
 repeat (refine sR ?_; simp)
 refine sC ?_
 simp
 refine ⟨fun hlt => ?_, fun hge => ?_⟩
 ·have hfx := hf xs[i] (List.getElem_mem _)
  have hpx : p xs[i] = true → anyB p xs = true ∧ (xs.findIdx p = i) := fun he => any_takeG hlt htk he
  have hmore : p xs[i] = false → ∀ x ∈ xs.take (i + 1), p x = false := fun he x hx => by
   rw [List.take_succ_eq_append_getElem hlt] at hx
   rcases List.mem_append.1 hx with hx | hx
   ·exact htk x hx
   ·simp at hx; rw [hx]; exact he
  try (simp [hlt])
  repeat (refine sR ?_; simp [hlt])
  generalize xs[i] = x at *
  refine Stop.of_b (hfx _ _ ((Ext.refl box).lb hbox [])) ?_
  simp
  cases he : p x
  ·refine sC ?_
   simp
   try (simp [hw])
   repeat (refine sR ?_; simp [hw])
   refine sE ?_
   refine ⟨i + 1, ⟨hlt, ?_⟩, by omega, Weaks.mk (Nat.le_refl _) rfl (by simp [ToL]; exact .same (okFn hc hbox [] (by simp) rfl _)) trivial⟩
   exact hmore he
  ·obtain ⟨h1, h2⟩ := hpx he
   refine sC ?_
   simp
   try (simp)
   repeat (refine sR ?_; simp)
   refine sT ?_
   try simp only [AU]
   refine ⟨by simp, sF hbox htok (fun _ h => h) (Nat.le_refl _) ?_⟩
   simp [packA, h1, h2]
 ·have hn : anyB p xs = false := by
   rw [List.take_of_length_le hge] at htk
   simpa [anyB] using htk
  refine sX ?_
  simp only [AU, ↓reduceIte]
  try (simp)
  repeat (refine sR ?_; simp)
  refine sT ?_
  try simp only [AU]
  refine ⟨by simp, sF hbox htok (fun _ h => h) (Nat.le_refl _) ?_⟩
  simp [packA, hn]
theorem containsFuncE2_c (xs : List ET) (f : FuncId) (caps : List AV) (p : ET → Bool) (hx : xs.length ≤ 1000000) (box : Bxs) (nb : Nat) (tok : Tks) (nt : Nat) (hc : ∀ c ∈ caps, OkIn (fun k => box k ≠ none) (fun _ => True) c)
  (hf : ∀ x ∈ xs, ∀ box' nb', Ext box box' → ACalls Tryz.prog f (x.av :: caps) ⟨box', nb', tok, nt⟩ fun v m => v = B (p x) ∧ m = ⟨box', nb', tok, nt⟩) :
  ACalls Tryz.prog 191 [.d (ets xs), .fn (.func f) caps] ⟨box, nb, tok, nt⟩ fun v m => v = B (anyB p xs) ∧ m = ⟨box, nb, tok, nt⟩ := by
 obtain ⟨A, hany⟩ : ∃ A, anyB p xs = A := ⟨_, rfl⟩
 have hi := fun b nb' h1 h2 => indexFuncE2_c xs f caps p hx b nb' tok nt h1 h2
 rw [hany]
 simp only [hany] at hi
 refine sB Tryz.func191 Tryz.ntmps191 ?_
 intro hbox htok
 simp only at hbox htok
 apply AL.start
 try (simp)
 repeat (refine sR ?_; simp)
 refine Stop.of_b (hi (lb nb box []) _ (fun c h => (hc c h).mono (fun k hk => by rw [hbox]; exact hk) fun _ h => h) (fun x hx' box' nb' he => hf x hx' box' nb' (by rw [hbox] at he; exact he))) ?_
 simp
 cases A
 ·try (simp)
  repeat (refine sR ?_; simp)
  refine sT ?_
  try simp only [AU]
  refine ⟨by simp, sF hbox htok (fun _ h => h) (Nat.le_refl _) ?_⟩
  simp [packA]
 ·have h0 : (0 : Int) ≤ (xs.findIdx p : Nat) := by omega
  try (simp)
  repeat (refine sR ?_; simp)
  refine sT ?_
  try simp only [AU]
  refine ⟨by simp, sF hbox htok (fun _ h => h) (Nat.le_refl _) ?_⟩
  simp [packA, h0]
end Go.AM
namespace Go.AM
open Go Go.Proofs
abbrev At.row (a : At) : List AV := [Sb a.name, I a.lo, I a.hi, .d (strs a.names)]
theorem attr1_c (x y : At) (box : Bxs) (nb k : Nat) (tok : Tks) (nt : Nat) (h1 : box k = some [x.row]) :
  ACalls Tryz.prog 232 [y.av, .ptr k 0 0] ⟨box, nb, tok, nt⟩ fun v m => v = B (decide (y.name = x.name)) ∧ m = ⟨box, nb, tok, nt⟩ := by
 refine sB Tryz.func232 Tryz.ntmps232 ?_
 intro hbox htok
 simp only at hbox htok
 apply AL.start
 have k1n := key_lt hbox h1
 rw [← seq_dec]
 try (simp [lb_out k1n, h1])
 repeat (refine sR ?_; simp [lb_out k1n, h1])
 refine sT ?_
 try simp only [AU]
 refine ⟨by simp, sF hbox htok (fun _ h => h) (Nat.le_refl _) ?_⟩
 simp [packA]
def rngA (x : At) : Bool := if x.names.length = 0 then decide (-1000000 ≤ x.lo ∧ x.lo ≤ x.hi ∧ x.hi ≤ 1000000) else decide (x.lo = 0 ∧ x.hi = (x.names.length : Int) - 1)
def attE (x : At) (before : List At) : Int := if nameB x.name = false then 2 else if anyB (fun y => decide (y.name = x.name)) before = true then 5 else if nmsE x.names ≠ 0 then nmsE x.names else if rngA x = true then 0 else 6
structure At.Fit (a : At) : Prop where
 n : a.name.size ≤ 1000000000000
 l : NmFit a.names
theorem attribute_c (x : At) (before : List At) (hx : x.Fit) (hb : before.length ≤ 1000000) (tok : Tks) (nt : Nat) : DCall Tryz.prog 189 [x.av, .d (atts before)] tok nt (I (attE x before)) tok nt := by
 intro box nb
 have h1 := isName_c x.name (Nat.le_trans hx.n (by decide))
 have h3 := names_c x.names hx.l
 cases e1 : nameB x.name
 ·rw [e1] at h1
  rw [show attE x before = 2 by rw [attE, if_pos e1]]
  refine sB Tryz.func189 Tryz.ntmps189 ?_
  intro hbox htok
  simp only at hbox htok
  apply AL.start
  try (simp)
  repeat (refine sR ?_; simp)
  refine Stop.of_d (h1 _ _) ?_
  simp
  try (simp)
  repeat (refine sR ?_; simp)
  refine sC ?_
  simp
  try (simp)
  repeat (refine sR ?_; simp)
  refine sT ?_
  try simp only [AU]
  refine ⟨by simp, sF hbox htok (fun _ h => h) (Nat.le_refl _) ?_⟩
  simp [packA]
 ·rw [e1] at h1
  have hA : attE x before = if anyB (fun y => decide (y.name = x.name)) before = true then 5 else if nmsE x.names ≠ 0 then nmsE x.names else if rngA x = true then 0 else 6 := by rw [attE, if_neg (by simp [e1])]
  obtain ⟨N, hN⟩ : ∃ N, attE x before = N := ⟨_, rfl⟩
  rw [hN] at hA ⊢
  obtain ⟨p, hp⟩ : ∃ p : At → Bool, (fun y => decide (y.name = x.name)) = p := ⟨_, rfl⟩
  have h2 := fun y box nb k h => attr1_c x y box nb k tok nt h
  have hpp : ∀ y : At, decide (y.name = x.name) = p y := fun y => by rw [← hp]
  simp only [hpp] at h2
  rw [hp] at hA
  have hcap : ∀ c ∈ [AV.ptr (nb + 2) 0 0], OkIn (fun k => (lb nb box [(2, [x.row])]) k ≠ none) (fun _ => True) c := by
   intro c hc
   rw [List.mem_singleton.1 hc]
   simp [lb_at]
  refine sB Tryz.func189 Tryz.ntmps189 ?_
  intro hbox htok
  simp only at hbox htok
  apply AL.start
  try (simp)
  repeat (refine sR ?_; simp)
  refine Stop.of_d (h1 _ _) ?_
  simp
  try (simp)
  repeat (refine sR ?_; simp)
  refine sC ?_
  simp
  try (simp)
  repeat (refine sR ?_; simp)
  refine Stop.of_b (containsFuncA_c before 232 [.ptr (nb + 2) 0 0] p hb _ _ _ _ hcap (fun y hy box' nb' he => h2 y box' nb' _ (he _ _ (by simp [lb_at])))) ?_
  simp
  try (simp)
  repeat (refine sR ?_; simp)
  cases e2 : anyB p before
  ·rw [e2, if_neg (by simp)] at hA
   refine sC ?_
   simp
   try (simp)
   repeat (refine sR ?_; simp)
   refine Stop.of_d (h3 _ _) ?_
   simp
   try (simp)
   repeat (refine sR ?_; simp)
   by_cases e3 : nmsE x.names = 0
   ·rw [if_neg (by simp [e3])] at hA
    simp only [e3]
    refine sC ?_
    simp
    by_cases c1 : -1000000 ≤ x.lo
    ·by_cases c2 : x.lo ≤ x.hi
     ·by_cases c3 : x.hi ≤ 1000000
      ·try (simp [c1, c2, c3])
       repeat (refine sR ?_; simp [c1, c2, c3])
       by_cases z : x.names.length = 0
       ·have z2 : ¬ 0 < x.names.length := by omega
        have hr : rngA x = true := by rw [rngA, if_pos z]; simp only [decide_eq_true_eq, decide_eq_false_iff_not]; omega
        rw [hr] at hA
        refine sC ?_
        simp [z2]
        try (simp)
        repeat (refine sR ?_; simp)
        refine sC ?_
        simp
        try (simp)
        repeat (refine sR ?_; simp)
        refine sT ?_
        try simp only [AU]
        refine ⟨by simp, sF hbox htok (fun _ h => h) (Nat.le_refl _) ?_⟩
        simp [packA, hA]
       ·have z2 : 0 < x.names.length := by omega
        have hr : rngA x = decide (x.lo = 0 ∧ x.hi = (x.names.length : Int) - 1) := if_neg z
        rw [hr] at hA
        have hln := hx.l.n
        have w : IntKind.i64.wrap ((x.names.length : Int) - 1) = (x.names.length : Int) - 1 := wrap_in (by omega) (by omega)
        by_cases l0 : x.lo = 0
        ·have b0 : (x.lo == 0) = true := by simp [l0]
         by_cases h0 : x.hi = (x.names.length : Int) - 1
         ·have b1 : (x.hi == (x.names.length : Int) - 1) = true := by simp [h0]
          refine sC ?_
          simp [z2]
          try (simp [w, b0, b1])
          repeat (refine sR ?_; simp [w, b0, b1])
          refine sC ?_
          simp
          try (simp)
          repeat (refine sR ?_; simp)
          refine sT ?_
          try simp only [AU]
          refine ⟨by simp, sF hbox htok (fun _ h => h) (Nat.le_refl _) ?_⟩
          simp [packA, hA, l0, h0]
         ·have b1 : (x.hi == (x.names.length : Int) - 1) = false := by simp [h0]
          refine sC ?_
          simp [z2]
          try (simp [w, b0, b1])
          repeat (refine sR ?_; simp [w, b0, b1])
          refine sC ?_
          simp
          try (simp)
          repeat (refine sR ?_; simp)
          refine sT ?_
          try simp only [AU]
          refine ⟨by simp, sF hbox htok (fun _ h => h) (Nat.le_refl _) ?_⟩
          simp [packA, hA, l0, h0]
        ·have b0 : (x.lo == 0) = false := by simp [l0]
         refine sC ?_
         simp [z2]
         try (simp [w, b0])
         repeat (refine sR ?_; simp [w, b0])
         refine sC ?_
         simp
         try (simp)
         repeat (refine sR ?_; simp)
         refine sT ?_
         try simp only [AU]
         refine ⟨by simp, sF hbox htok (fun _ h => h) (Nat.le_refl _) ?_⟩
         simp [packA, hA, l0]
      ·try (simp [c1, c2, c3])
       repeat (refine sR ?_; simp [c1, c2, c3])
       by_cases z : x.names.length = 0
       ·have z2 : ¬ 0 < x.names.length := by omega
        have hr : rngA x = false := by rw [rngA, if_pos z]; simp only [decide_eq_true_eq, decide_eq_false_iff_not]; omega
        rw [hr] at hA
        refine sC ?_
        simp [z2]
        try (simp)
        repeat (refine sR ?_; simp)
        refine sC ?_
        simp
        try (simp)
        repeat (refine sR ?_; simp)
        refine sT ?_
        try simp only [AU]
        refine ⟨by simp, sF hbox htok (fun _ h => h) (Nat.le_refl _) ?_⟩
        simp [packA, hA]
       ·have z2 : 0 < x.names.length := by omega
        have hr : rngA x = decide (x.lo = 0 ∧ x.hi = (x.names.length : Int) - 1) := if_neg z
        rw [hr] at hA
        have hln := hx.l.n
        have w : IntKind.i64.wrap ((x.names.length : Int) - 1) = (x.names.length : Int) - 1 := wrap_in (by omega) (by omega)
        by_cases l0 : x.lo = 0
        ·have b0 : (x.lo == 0) = true := by simp [l0]
         by_cases h0 : x.hi = (x.names.length : Int) - 1
         ·have b1 : (x.hi == (x.names.length : Int) - 1) = true := by simp [h0]
          refine sC ?_
          simp [z2]
          try (simp [w, b0, b1])
          repeat (refine sR ?_; simp [w, b0, b1])
          refine sC ?_
          simp
          try (simp)
          repeat (refine sR ?_; simp)
          refine sT ?_
          try simp only [AU]
          refine ⟨by simp, sF hbox htok (fun _ h => h) (Nat.le_refl _) ?_⟩
          simp [packA, hA, l0, h0]
         ·have b1 : (x.hi == (x.names.length : Int) - 1) = false := by simp [h0]
          refine sC ?_
          simp [z2]
          try (simp [w, b0, b1])
          repeat (refine sR ?_; simp [w, b0, b1])
          refine sC ?_
          simp
          try (simp)
          repeat (refine sR ?_; simp)
          refine sT ?_
          try simp only [AU]
          refine ⟨by simp, sF hbox htok (fun _ h => h) (Nat.le_refl _) ?_⟩
          simp [packA, hA, l0, h0]
        ·have b0 : (x.lo == 0) = false := by simp [l0]
         refine sC ?_
         simp [z2]
         try (simp [w, b0])
         repeat (refine sR ?_; simp [w, b0])
         refine sC ?_
         simp
         try (simp)
         repeat (refine sR ?_; simp)
         refine sT ?_
         try simp only [AU]
         refine ⟨by simp, sF hbox htok (fun _ h => h) (Nat.le_refl _) ?_⟩
         simp [packA, hA, l0]
     ·try (simp [c1, c2])
      repeat (refine sR ?_; simp [c1, c2])
      by_cases z : x.names.length = 0
      ·have z2 : ¬ 0 < x.names.length := by omega
       have hr : rngA x = false := by rw [rngA, if_pos z]; simp only [decide_eq_true_eq, decide_eq_false_iff_not]; omega
       rw [hr] at hA
       refine sC ?_
       simp [z2]
       try (simp)
       repeat (refine sR ?_; simp)
       refine sC ?_
       simp
       try (simp)
       repeat (refine sR ?_; simp)
       refine sT ?_
       try simp only [AU]
       refine ⟨by simp, sF hbox htok (fun _ h => h) (Nat.le_refl _) ?_⟩
       simp [packA, hA]
      ·have z2 : 0 < x.names.length := by omega
       have hr : rngA x = decide (x.lo = 0 ∧ x.hi = (x.names.length : Int) - 1) := if_neg z
       rw [hr] at hA
       have hln := hx.l.n
       have w : IntKind.i64.wrap ((x.names.length : Int) - 1) = (x.names.length : Int) - 1 := wrap_in (by omega) (by omega)
       by_cases l0 : x.lo = 0
       ·have b0 : (x.lo == 0) = true := by simp [l0]
        by_cases h0 : x.hi = (x.names.length : Int) - 1
        ·have b1 : (x.hi == (x.names.length : Int) - 1) = true := by simp [h0]
         refine sC ?_
         simp [z2]
         try (simp [w, b0, b1])
         repeat (refine sR ?_; simp [w, b0, b1])
         refine sC ?_
         simp
         try (simp)
         repeat (refine sR ?_; simp)
         refine sT ?_
         try simp only [AU]
         refine ⟨by simp, sF hbox htok (fun _ h => h) (Nat.le_refl _) ?_⟩
         simp [packA, hA, l0, h0]
        ·have b1 : (x.hi == (x.names.length : Int) - 1) = false := by simp [h0]
         refine sC ?_
         simp [z2]
         try (simp [w, b0, b1])
         repeat (refine sR ?_; simp [w, b0, b1])
         refine sC ?_
         simp
         try (simp)
         repeat (refine sR ?_; simp)
         refine sT ?_
         try simp only [AU]
         refine ⟨by simp, sF hbox htok (fun _ h => h) (Nat.le_refl _) ?_⟩
         simp [packA, hA, l0, h0]
       ·have b0 : (x.lo == 0) = false := by simp [l0]
        refine sC ?_
        simp [z2]
        try (simp [w, b0])
        repeat (refine sR ?_; simp [w, b0])
        refine sC ?_
        simp
        try (simp)
        repeat (refine sR ?_; simp)
        refine sT ?_
        try simp only [AU]
        refine ⟨by simp, sF hbox htok (fun _ h => h) (Nat.le_refl _) ?_⟩
        simp [packA, hA, l0]
    ·try (simp [c1])
     repeat (refine sR ?_; simp [c1])
     by_cases z : x.names.length = 0
     ·have z2 : ¬ 0 < x.names.length := by omega
      have hr : rngA x = false := by rw [rngA, if_pos z]; simp only [decide_eq_true_eq, decide_eq_false_iff_not]; omega
      rw [hr] at hA
      refine sC ?_
      simp [z2]
      try (simp)
      repeat (refine sR ?_; simp)
      refine sC ?_
      simp
      try (simp)
      repeat (refine sR ?_; simp)
      refine sT ?_
      try simp only [AU]
      refine ⟨by simp, sF hbox htok (fun _ h => h) (Nat.le_refl _) ?_⟩
      simp [packA, hA]
     ·have z2 : 0 < x.names.length := by omega
      have hr : rngA x = decide (x.lo = 0 ∧ x.hi = (x.names.length : Int) - 1) := if_neg z
      rw [hr] at hA
      have hln := hx.l.n
      have w : IntKind.i64.wrap ((x.names.length : Int) - 1) = (x.names.length : Int) - 1 := wrap_in (by omega) (by omega)
      by_cases l0 : x.lo = 0
      ·have b0 : (x.lo == 0) = true := by simp [l0]
       by_cases h0 : x.hi = (x.names.length : Int) - 1
       ·have b1 : (x.hi == (x.names.length : Int) - 1) = true := by simp [h0]
        refine sC ?_
        simp [z2]
        try (simp [w, b0, b1])
        repeat (refine sR ?_; simp [w, b0, b1])
        refine sC ?_
        simp
        try (simp)
        repeat (refine sR ?_; simp)
        refine sT ?_
        try simp only [AU]
        refine ⟨by simp, sF hbox htok (fun _ h => h) (Nat.le_refl _) ?_⟩
        simp [packA, hA, l0, h0]
       ·have b1 : (x.hi == (x.names.length : Int) - 1) = false := by simp [h0]
        refine sC ?_
        simp [z2]
        try (simp [w, b0, b1])
        repeat (refine sR ?_; simp [w, b0, b1])
        refine sC ?_
        simp
        try (simp)
        repeat (refine sR ?_; simp)
        refine sT ?_
        try simp only [AU]
        refine ⟨by simp, sF hbox htok (fun _ h => h) (Nat.le_refl _) ?_⟩
        simp [packA, hA, l0, h0]
      ·have b0 : (x.lo == 0) = false := by simp [l0]
       refine sC ?_
       simp [z2]
       try (simp [w, b0])
       repeat (refine sR ?_; simp [w, b0])
       refine sC ?_
       simp
       try (simp)
       repeat (refine sR ?_; simp)
       refine sT ?_
       try simp only [AU]
       refine ⟨by simp, sF hbox htok (fun _ h => h) (Nat.le_refl _) ?_⟩
       simp [packA, hA, l0]
   ·rw [if_pos e3] at hA
    have b3 : (nmsE x.names != 0) = true := by simp [e3]
    simp only [b3]
    refine sC ?_
    simp
    try (simp)
    repeat (refine sR ?_; simp)
    refine sT ?_
    try simp only [AU]
    refine ⟨by simp, sF hbox htok (fun _ h => h) (Nat.le_refl _) ?_⟩
    simp [packA, hA]
  ·rw [e2, if_pos rfl] at hA
   refine sC ?_
   simp
   try (simp)
   repeat (refine sR ?_; simp)
   refine sT ?_
   try simp only [AU]
   refine ⟨by simp, sF hbox htok (fun _ h => h) (Nat.le_refl _) ?_⟩
   simp [packA, hA]
end Go.AM
namespace Go.AM
open Go Go.Proofs
end Go.AM
