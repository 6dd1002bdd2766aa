/-
  Parts of the proof, as merged from many texts: a machine over data, what the functions compute, plain laws.
-/
import Derived.Test.YtfgcpmeadeehhaaGreatPTR8
import Derived.Deep.AppendLies
set_option linter.unusedSimpArgs false
set_option linter.unusedVariables false
namespace Go.AM
open Go Go.Proofs
def stGN (n k : Nat) (nb : Nat) (box : Nat → Option (List (List AV))) (x : Acc) : AState := ⟨tl [(8, I x.i), (7, I k), (5, .osl 1 (rI (iotaF n x.i)) x.own), (0, I n)], lb nb box [], x.tok, x.nt⟩
theorem gnumbers_c (n k : Nat) (hn : n ≤ 1000000) (hk : k ≤ 1000000) (tok : Nat → Bool) (nt : Nat) : DCall Tryz.prog 240 [I n, I k] tok nt (.d (ints (iotaF n k))) tok nt := by
  intro box nb
  refine sB Tryz.func240 Tryz.ntmps240 ?_
  intro hbox htok
  simp only at hbox htok
  apply AL.start
  try (simp)
  repeat (refine sR ?_; simp)
  refine sN ?_
  refine AL.loopT (stGN n k nb box) (fun x => x.i ≤ k ∧ TK tok nt x.tok x.nt [x.own]) (fun x => k - x.i) ⟨0, .full, tok, nt⟩ ⟨Nat.zero_le _, (TK.start htok).full⟩ (Weaks.mk (Nat.le_refl _) rfl (by simp [ToL, lk, iotaF_zero]) trivial) ?_
  rintro ⟨i, own, tok', nt'⟩ S ⟨hi, htk⟩ hS
  simp only [stGN] at hS hi htk
  subst hS
  have hw := sW (i := i) (by omega)
  have hw2 : IntKind.i64.wrap (↑n + ↑i) = ((n + i : Nat) : Int) := by rw [wrap_in (by omega) (by omega)]; omega
  have hl := iotaF_len n i
  have hs := iotaF_succ n i
  try (simp)
  repeat (refine sR ?_; simp)
  refine sC ?_
  simp
  refine ⟨fun hlt => ?_, fun hge => ?_⟩
  · try (simp [hw2])
    repeat (refine sR ?_; simp [hw2])
    refine ⟨⟨by omega, htk.live⟩, ?_⟩
    try (simp [hw])
    repeat (refine sR ?_; simp [hw])
    refine sE ?_
    exact ⟨⟨i + 1, _, _, _⟩, ⟨hlt, htk.app⟩, by simp only; omega, Weaks.mk htk.app.le rfl (by simp [ToL, lk, hs]) trivial⟩
  · refine sX ?_
    simp only [AU, ↓reduceIte]
    have : i = k := by omega
    subst this
    try (simp)
    repeat (refine sR ?_; simp)
    refine sT ?_
    try simp only [AU]
    refine ⟨by simp, sF hbox htok htk.old htk.le ?_⟩
    simp [packA, ]
def folK (l h : List Int) (i : Nat) : List Int := byK l h i ++ List.replicate (l.length - i) 0
theorem folK_len (l h : List Int) {i : Nat} (hi : i ≤ l.length) : (folK l h i).length = l.length := by simp [folK, byK]; omega
theorem folK_set (l h : List Int) {i : Nat} (hi : i < l.length) (h2 : l[i].toNat < h.length) : (folK l h i).set i h[l[i].toNat] = folK l h (i + 1) := by
  unfold folK
  have e : (byK l h i).length = i := by simp [byK]; omega
  have e2 : l.length - i = (l.length - (i + 1)) + 1 := by omega
  rw [List.set_append, e, if_neg (by omega), Nat.sub_self, e2, List.replicate_succ, List.set_cons_zero, byK_succ l h hi]
  simp [h2]
def stFw (l h : List Int) (nb : Nat) (box : Nat → Option (List (List AV))) (tok : Nat → Bool) (nt : Nat) (i : Nat) : AState :=
  ⟨tl [(13, I i), (12, I l.length), (11, .d (ints l)), (5, .msl (nb + 10) 0 l.length 1), (1, .d (ints h))], lb nb box [(10, rowsI (folK l h i))], tok, nt⟩
theorem follow_c (l h : List Int) (hl : l.length ≤ 1000000) (hr : ∀ x ∈ l, 0 ≤ x ∧ x < h.length) (tok : Nat → Bool) (nt : Nat) : DCall Tryz.prog 243 [.d (ints l), .d (ints h)] tok nt (.d (ints (byK l h l.length))) tok nt := by
  intro box nb
  refine sB Tryz.func243 Tryz.ntmps243 ?_
  intro hbox htok
  simp only at hbox htok
  apply AL.start
  try (simp)
  repeat (refine sR ?_; simp)
  refine ⟨by omega, ?_⟩
  try (simp)
  repeat (refine sR ?_; simp)
  refine sN ?_
  refine AL.loopT (stFw l h nb box tok nt) (fun i => i ≤ l.length) (fun i => l.length - i) 0 (Nat.zero_le _) (Weaks.mk (Nat.le_refl _) rfl (by simp [ToL, lk]) (by simp [BoxL, lk, folK, byK_zero])) ?_
  rintro i S hi hS
  simp only [stFw] at hS
  subst hS
  have hw := sW (i := i) (by omega)
  have hfl := folK_len l h hi
  try (simp)
  repeat (refine sR ?_; simp)
  refine sC ?_
  simp
  refine ⟨fun hlt => ?_, fun hge => ?_⟩
  · obtain ⟨x0, x1⟩ := hr _ (List.getElem_mem hlt)
    have x2 : l[i].toNat < h.length := by omega
    have hst := folK_set l h hlt x2
    try (simp [hlt, x0, x1, x2, hfl, hw])
    repeat (refine sR ?_; simp [hlt, x0, x1, x2, hfl, hw])
    refine sE ?_
    exact ⟨i + 1, hlt, by omega, Weaks.mk (Nat.le_refl _) rfl (by simp [ToL, lk]) (by simp [BoxL, lk, hst])⟩
  · refine sX ?_
    simp only [AU, ↓reduceIte]
    have : i = l.length := by omega
    subst this
    have hall : folK l h l.length = byK l h l.length := by simp [folK]
    rw [hall]
    have hbl : (byK l h l.length).length = l.length := byK_all l h
    refine AL.weak (Weaks.frz (l' := [(5, .d (ints (byK l h l.length)))]) (loc' := []) 10 1 (rI (byK l h l.length)) (Nat.le_refl _) rfl (by simp [lk, rowsI_eq]) (by simp [lk]) (by simp) (by simp [ToL, hbl]) (by simp [BoxL])) ?_
    try (simp)
    repeat (refine sR ?_; simp)
    refine sT ?_
    try simp only [AU]
    refine ⟨by simp, sF hbox htok (fun _ h => h) (Nat.le_refl _) ?_⟩
    simp [packA]
def stPp (F G A C : List Int) (n1 : Nat) (nb : Nat) (box : Nat → Option (List (List AV))) (x : Acc) : AState :=
  ⟨tl [(13, I x.i), (12, I F.length), (9, .osl 2 ((prK n1 F G x.i).map fun p => [D.raw (.int .i64 p.1), D.raw (.int .i64 p.2)]) x.own), (0, .d (ints F)), (1, .d (ints G)), (2, .d (ints A)), (3, .d (ints C))], lb nb box [], x.tok, x.nt⟩
theorem ppairs_c (F G A C : List Int) (n1 : Nat) (hl : F.length = G.length) (hF : F.length ≤ 1000000) (h1 : ∀ x ∈ F, 0 ≤ x ∧ x < n1) (h2 : ∀ x ∈ G, 0 ≤ x ∧ x < C.length) (hA : A = iota n1) (hC : C = iotaF n1 C.length) (tok : Nat → Bool) (nt : Nat) :
    DCall Tryz.prog 204 [.d (ints F), .d (ints G), .d (ints A), .d (ints C)] tok nt (.d (prs (prK n1 F G F.length))) tok nt := by
  intro box nb
  refine sB Tryz.func204 Tryz.ntmps204 ?_
  intro hbox htok
  simp only at hbox htok
  apply AL.start
  try (simp)
  repeat (refine sR ?_; simp)
  refine sN ?_
  have Al : A.length = n1 := by rw [hA, iota_len]
  refine AL.loopT (stPp F G A C n1 nb box) (fun x => x.i ≤ F.length ∧ TK tok nt x.tok x.nt [x.own]) (fun x => F.length - x.i) ⟨0, .full, tok, nt⟩ ⟨Nat.zero_le _, (TK.start htok).full⟩ (Weaks.mk (Nat.le_refl _) rfl (by simp [ToL, lk, prK]) trivial) ?_
  rintro ⟨i, own, tok', nt'⟩ S ⟨hi, htk⟩ hS
  simp only [stPp] at hS hi htk
  subst hS
  have hw := sW (i := i) (by omega)
  have hpl := prK_len n1 F G i
  have hsc := prK_succ n1 F G i
  try (simp)
  repeat (refine sR ?_; simp)
  refine sC ?_
  simp
  refine ⟨fun hlt => ?_, fun hge => ?_⟩
  · have hig : i < G.length := by omega
    have e1 : F.getD i 0 = F[i] := by simp [hlt]
    have e2 : G.getD i 0 = G[i] := by simp [hig]
    obtain ⟨a0, a1⟩ := h1 _ (List.getElem_mem hlt)
    obtain ⟨c0, c1⟩ := h2 _ (List.getElem_mem hig)
    have a2 : F[i].toNat < A.length := by omega
    have c2 : G[i].toNat < C.length := by omega
    have a3 : A[F[i].toNat] = F[i] := by
      have : A.getD F[i].toNat 0 = F[i].toNat := by rw [hA]; exact iota_getD (by omega)
      rw [List.getD_eq_getElem?_getD, List.getElem?_eq_getElem a2, Option.getD_some] at this
      omega
    have c3 : C[G[i].toNat] = (n1 : Int) + G[i] := by
      have : C.getD G[i].toNat 0 = ((n1 + G[i].toNat : Nat) : Int) := by rw [hC]; exact iotaF_get (by omega)
      rw [List.getD_eq_getElem?_getD, List.getElem?_eq_getElem c2, Option.getD_some] at this
      omega
    rw [e1, e2] at hsc
    rw [← Al] at a1
    try (simp [hlt, hig, a0, a1, a2, a3, c0, c1, c2, c3])
    repeat (refine sR ?_; simp [hlt, hig, a0, a1, a2, a3, c0, c1, c2, c3])
    refine ⟨⟨by omega, htk.live⟩, ?_⟩
    try (simp [hw])
    repeat (refine sR ?_; simp [hw])
    refine sE ?_
    exact ⟨⟨i + 1, _, _, _⟩, ⟨hlt, htk.app⟩, by simp only; omega, Weaks.mk htk.app.le rfl (by simp [ToL, lk, hsc]) trivial⟩
  · refine sX ?_
    simp only [AU, ↓reduceIte]
    have : i = F.length := by omega
    subst this
    try (simp)
    repeat (refine sR ?_; simp)
    refine sT ?_
    try simp only [AU]
    refine ⟨by simp, sF hbox htok htk.old htk.le ?_⟩
    simp [packA, ]
def stU1 (b c : Gr) (nb : Nat) (box : Nat → Option (List (List AV))) (tok : Nat → Bool) (nt : Nat) (i : Nat) : AState :=
  ⟨tl [(22, I i), (21, I 2), (20, .osl 2 [[ints b.nodes, AM.edges b.edges], [ints c.nodes, AM.edges c.edges]] .full), (7, I 0), (6, .ptr (nb + 6) 0 0), (5, .ptr (nb + 5) 0 0), (4, .ptr (nb + 4) 0 0), (3, .ptr (nb + 3) 0 0), (2, .ptr (nb + 2) 0 0)],
    lb nb box [(3, [[.d (ints c.nodes), .d (AM.edges c.edges)]]), (2, [[.d (ints b.nodes), .d (AM.edges b.edges)]]), (6, [[.bot, .bot]]), (5, [[.bot, .bot]]), (4, [[.bot, .bot]])], tok, nt⟩
def stU2 (b c : Gr) (N : List Int) (nb : Nat) (box : Nat → Option (List (List AV))) (x : Acc) : AState :=
  ⟨tl [(71, I x.i), (70, I c.edges.length), (69, .d (AM.edges c.edges)), (13, .ptr (nb + 13) 0 0), (12, I b.edges.length), (11, I b.nodes.length), (6, .ptr (nb + 6) 0 0), (5, .ptr (nb + 5) 0 0), (4, .ptr (nb + 4) 0 0), (3, .ptr (nb + 3) 0 0)],
    lb nb box [(13, [[.d (ints N), .osl 3 (rE (unE b c x.i)) x.own]]), (3, [[.d (ints c.nodes), .d (AM.edges c.edges)]]), (6, [[.bot, .bot]]), (5, [[.bot, .bot]]), (4, [[.bot, .bot]])], x.tok, x.nt⟩
theorem union_c (b c : Gr) (hb : b.Fit) (hc : c.Fit) (vb : validG b = 0) (vc : validG c = 0) (tok : Nat → Bool) (nt : Nat) : DCall Tryz.prog 202 [b.av, c.av] tok nt
    (if 40 < b.nodes.length + c.nodes.length ∨ 80 < b.edges.length + c.edges.length then .tup [Gr.av ⟨[], []⟩, Mo.av ⟨[], []⟩, Mo.av ⟨[], []⟩, I 3]
     else .tup [(unG b c).av, (idM b).av, Mo.av ⟨iotaF b.nodes.length c.nodes.length, iotaF b.edges.length c.edges.length⟩, I 0]) tok nt := by
  intro box nb
  have hb1 := graphValid_c b hb
  have hc1 := graphValid_c c hc
  refine sB Tryz.func202 Tryz.ntmps202 ?_
  intro hbox htok
  simp only at hbox htok
  apply AL.start
  try (simp)
  repeat (refine sR ?_; simp)
  refine ⟨rfl, ?_⟩
  refine sN ?_
  refine AL.loopT (stU1 b c nb box tok nt) (fun i => i ≤ 2) mu13 0 (by omega) (Weaks.mk (Nat.le_refl _) rfl (by simp [ToL, lk]) (by simp [BoxL, lk])) ?_
  rintro i S hi hS
  simp only [stU1] at hS
  subst hS
  try (simp)
  repeat (refine sR ?_; simp)
  refine sC ?_
  simp
  have h012 : i = 0 ∨ i = 1 ∨ i = 2 := by omega
  rcases h012 with rfl | rfl | rfl
  · simp
    try (simp)
    repeat (refine sR ?_; simp)
    refine Stop.of_d (hb1 _ _) ?_
    simp
    try (simp [vb])
    repeat (refine sR ?_; simp [vb])
    refine sC ?_
    simp
    try (simp [show IntKind.i64.wrap 1 = 1 from rfl])
    repeat (refine sR ?_; simp [show IntKind.i64.wrap 1 = 1 from rfl])
    refine sE ?_
    exact ⟨1, by omega, by decide, Weaks.mk (Nat.le_refl _) rfl (by simp [ToL, lk]) (by simp [BoxL, lk])⟩
  · simp
    try (simp)
    repeat (refine sR ?_; simp)
    refine Stop.of_d (hc1 _ _) ?_
    simp
    try (simp [vc])
    repeat (refine sR ?_; simp [vc])
    refine sC ?_
    simp
    try (simp [show IntKind.i64.wrap 2 = 2 from rfl])
    repeat (refine sR ?_; simp [show IntKind.i64.wrap 2 = 2 from rfl])
    refine sE ?_
    exact ⟨2, by omega, by decide, Weaks.mk (Nat.le_refl _) rfl (by simp [ToL, lk]) (by simp [BoxL, lk])⟩
  · simp
    refine sX ?_
    simp only [AU, ↓reduceIte]
    have hbn := hb.n
    have hbe := hb.e
    have hcn := hc.n
    have hce := hc.e
    have w1 : IntKind.i64.wrap (↑b.nodes.length + ↑c.nodes.length) = (b.nodes.length : Int) + c.nodes.length := wrap_in (by omega) (by omega)
    have w2 : IntKind.i64.wrap (↑b.edges.length + ↑c.edges.length) = (b.edges.length : Int) + c.edges.length := wrap_in (by omega) (by omega)
    have hcl := cloneE_c b.edges (by omega)
    by_cases h1 : (40 : Int) < (b.nodes.length : Int) + c.nodes.length
    · have hcc : 40 < b.nodes.length + c.nodes.length ∨ 80 < b.edges.length + c.edges.length := .inl (by omega)
      try (simp [w1, h1])
      repeat (refine sR ?_; simp [w1, h1])
      refine sC ?_
      simp
      try (simp)
      repeat (refine sR ?_; simp)
      refine sT ?_
      try simp only [AU]
      refine ⟨by simp, sF hbox htok (fun _ h => h) (Nat.le_refl _) ?_⟩
      simp [packA, hcc, ints, AM.edges]
    · by_cases h2 : (80 : Int) < (b.edges.length : Int) + c.edges.length
      · have hcc : 40 < b.nodes.length + c.nodes.length ∨ 80 < b.edges.length + c.edges.length := .inr (by omega)
        try (simp [w1, h1, w2, h2])
        repeat (refine sR ?_; simp [w1, h1, w2, h2])
        refine sC ?_
        simp
        try (simp)
        repeat (refine sR ?_; simp)
        refine sT ?_
        try simp only [AU]
        refine ⟨by simp, sF hbox htok (fun _ h => h) (Nat.le_refl _) ?_⟩
        simp [packA, hcc, ints, AM.edges]
      · have hcc : ¬ (40 < b.nodes.length + c.nodes.length ∨ 80 < b.edges.length + c.edges.length) := by omega
        try (simp [w1, h1, w2, h2])
        repeat (refine sR ?_; simp [w1, h1, w2, h2])
        refine sC ?_
        simp
        have hcat := concat2_c b.nodes c.nodes (by omega)
        have hcc2 : ¬ 40 < b.nodes.length + c.nodes.length := by omega
        have hcc3 : ¬ 80 < b.edges.length + c.edges.length := by omega
        obtain ⟨N, hN⟩ : ∃ N, b.nodes ++ c.nodes = N := ⟨_, rfl⟩
        rw [hN] at hcat
        have hu : unG b c = ⟨N, unE b c c.edges.length⟩ := by rw [← hN]; simp [unG, unE]
        try (simp)
        repeat (refine sR ?_; simp)
        refine ⟨rfl, ?_⟩
        refine Stop.data ?_
        refine Stop.of_d (hcat _ _) ?_
        simp
        try (simp)
        repeat (refine sR ?_; simp)
        refine Stop.of_d (hcl _ _) ?_
        simp
        try (simp)
        repeat (refine sR ?_; simp)
        refine sN ?_
        have htk := (TK.start htok).full.app
        refine AL.loopT (stU2 b c N nb box) (fun x => x.i ≤ c.edges.length ∧ TK tok nt x.tok x.nt [x.own]) (fun x => c.edges.length - x.i) ⟨0, _, _, _⟩ ⟨Nat.zero_le _, htk⟩ (Weaks.mk htk.le rfl (by simp [ToL, lk]) (by simp [BoxL, lk, unE])) ?_
        rintro ⟨i, o2, tok', nt'⟩ S ⟨hi, htk⟩ hS
        simp only [stU2] at hS hi htk
        subst hS
        have hw := sW (i := i) (by omega)
        have hul := unE_len b c i
        have hec := validG_edges vc
        try (simp)
        repeat (refine sR ?_; simp)
        refine sC ?_
        simp
        refine ⟨fun hlt => ?_, fun hge => ?_⟩
        · have hus := unE_succ b c hlt
          obtain ⟨e1, e2, e3, e4⟩ := hec _ (List.getElem_mem hlt)
          have x1 : IntKind.i64.wrap (c.edges[i].fr + ↑b.nodes.length) = c.edges[i].fr + b.nodes.length := wrap_in (by omega) (by omega)
          have x2 : IntKind.i64.wrap (c.edges[i].to + ↑b.nodes.length) = c.edges[i].to + b.nodes.length := wrap_in (by omega) (by omega)
          try (simp [hlt, x1, x2])
          repeat (refine sR ?_; simp [hlt, x1, x2])
          refine ⟨⟨by omega, htk.live⟩, ?_⟩
          try (simp [hw])
          repeat (refine sR ?_; simp [hw])
          refine sE ?_
          exact ⟨⟨i + 1, _, _, _⟩, ⟨hlt, htk.app⟩, by simp only; omega, Weaks.mk htk.app.le rfl (by simp [ToL, lk]) (by simp [BoxL, lk, hus, shE])⟩
        · refine sX ?_
          simp only [AU, ↓reduceIte]
          have : i = c.edges.length := by omega
          subst this
          have n1 : ∀ tok nt, DCall Tryz.prog 240 [I 0, I b.nodes.length] tok nt (.d (ints (iota b.nodes.length))) tok nt := by rw [← iotaF_iota]; exact gnumbers_c 0 b.nodes.length (by omega) (by omega)
          have n2 : ∀ tok nt, DCall Tryz.prog 240 [I 0, I b.edges.length] tok nt (.d (ints (iota b.edges.length))) tok nt := by rw [← iotaF_iota]; exact gnumbers_c 0 b.edges.length (by omega) (by omega)
          have n3 := gnumbers_c b.nodes.length c.nodes.length (by omega) (by omega)
          have n4 := gnumbers_c b.edges.length c.edges.length (by omega) (by omega)
          try (simp)
          repeat (refine sR ?_; simp)
          refine Stop.of_d (n1 _ _) ?_
          simp
          try (simp)
          repeat (refine sR ?_; simp)
          refine Stop.of_d (n2 _ _) ?_
          simp
          try (simp)
          repeat (refine sR ?_; simp)
          refine Stop.of_d (n3 _ _) ?_
          simp
          try (simp)
          repeat (refine sR ?_; simp)
          refine Stop.of_d (n4 _ _) ?_
          simp
          refine sN ?_
          refine AL.region2 follows_Tryz (Nat.le_refl _) (by kernel_rfl) (Side.of (by simp)) ?_
          simp
          refine sT ?_
          try simp only [AU]
          refine ⟨by simp, sF hbox htok htk.old htk.le ?_⟩
          simp [packA, hcc, hu, idM]
def stPq1 (a : Gr) (L1 L2 q1 q2 : List Int) (nb : Nat) (box : Nat → Option (List (List AV))) (x : Acc) : AState :=
  ⟨tl [(64, I x.i), (63, I L1.length), (62, .d (ints L1)), (18, .ptr (nb + 18) 0 0), (15, .d (ints q2)), (12, .d (ints q1)), (11, .d (ints L2)), (7, .ptr (nb + 7) 0 0), (6, .ptr (nb + 6) 0 0), (3, .ptr (nb + 3) 0 0)],
    lb nb box [(18, [[.osl 1 (rI (repN a.nodes L1 x.i)) x.own, .osl 0 [] .full]]), (3, [[.d (ints a.nodes), .d (AM.edges a.edges)]]), (7, [[.bot, .bot]]), (6, [[.bot, .bot]])], x.tok, x.nt⟩
def stPq2 (a : Gr) (L1 L2 q1 q2 : List Int) (nb : Nat) (box : Nat → Option (List (List AV))) (x : Acc) : AState :=
  ⟨tl [(85, I x.i), (84, I L2.length), (83, .d (ints L2)), (18, .ptr (nb + 18) 0 0), (15, .d (ints q2)), (12, .d (ints q1)), (7, .ptr (nb + 7) 0 0), (6, .ptr (nb + 6) 0 0), (3, .ptr (nb + 3) 0 0)],
    lb nb box [(18, [[.d (ints (repN a.nodes L1 L1.length)), .osl 3 (rE (repE a.edges q1 L2 x.i)) x.own]]), (3, [[.d (ints a.nodes), .d (AM.edges a.edges)]]), (7, [[.bot, .bot]]), (6, [[.bot, .bot]])], x.tok, x.nt⟩
theorem pquotient_c (a : Gr) (pn pe : List (Int × Int)) (L1 L2 : List Int) (ha : a.Fit) (g1 : ∀ tok nt, DCall Tryz.prog 241 [I a.nodes.length, .d (prs pn)] tok nt (.tup [.d (ints L1), I 0]) tok nt) (g2 : ∀ tok nt, DCall Tryz.prog 241 [I a.edges.length, .d (prs pe)] tok nt (.tup [.d (ints L2), I 0]) tok nt)
    (hl : L1.length = a.nodes.length) (hk : L2.length = a.edges.length) (h80 : a.nodes.length ≤ 80 ∧ a.edges.length ≤ 80) (hpl : PartL L1) (hpk : PartL L2) (hx : EOk a) (tok : Nat → Bool) (nt : Nat) :
    DCall Tryz.prog 203 [a.av, .d (prs pn), .d (prs pe)] tok nt (.tup [(quot a L1 L2).g.av, (quot a L1 L2).o.av, I 0]) tok nt := by
  intro box nb
  have q1 := quotient86_c L1 (by omega) hpl
  have q2 := quotient86_c L2 (by omega) hpk
  refine sB Tryz.func203 Tryz.ntmps203 ?_
  intro hbox htok
  simp only at hbox htok
  apply AL.start
  try (simp)
  repeat (refine sR ?_; simp)
  refine Stop.of_d (g1 _ _) ?_
  simp
  try (simp)
  repeat (refine sR ?_; simp)
  refine sC ?_
  simp
  try (simp)
  repeat (refine sR ?_; simp)
  refine Stop.of_d (g2 _ _) ?_
  simp
  try (simp)
  repeat (refine sR ?_; simp)
  refine sC ?_
  simp
  try (simp)
  repeat (refine sR ?_; simp)
  refine Stop.of_d (q1 _ _) ?_
  simp
  try (simp)
  repeat (refine sR ?_; simp)
  refine Stop.of_d (q2 _ _) ?_
  simp
  try (simp)
  repeat (refine sR ?_; simp)
  refine sN ?_
  have han := ha.n
  have hae := ha.e
  have hnl := numN_len L1 L1.length
  have hnk := numN_len L2 L2.length
  have hqt : quot a L1 L2 = ⟨⟨repN a.nodes L1 L1.length, repE a.edges (numN L1 L1.length).1 L2 L2.length⟩, ⟨(numN L1 L1.length).1, (numN L2 L2.length).1⟩⟩ := rfl
  rw [hqt]
  generalize (numN L1 L1.length).1 = q1n at *
  generalize (numN L2 L2.length).1 = q2n at *
  refine AL.loopT (stPq1 a L1 L2 q1n q2n nb box) (fun x => x.i ≤ L1.length ∧ TK tok nt x.tok x.nt [x.own]) (fun x => L1.length - x.i) ⟨0, .full, tok, nt⟩ ⟨Nat.zero_le _, (TK.start htok).full⟩ (Weaks.mk (Nat.le_refl _) rfl (by simp [ToL, lk]) (by simp [BoxL, lk, repN])) ?_
  rintro ⟨i, own, tok', nt'⟩ S ⟨hi, htk⟩ hS
  simp only [stPq1] at hS hi htk
  subst hS
  have hw := sW (i := i) (by omega)
  have hln := repN_len a.nodes L1 i
  try (simp)
  repeat (refine sR ?_; simp)
  refine sC ?_
  simp
  refine ⟨fun hlt => ?_, fun hge => ?_⟩
  · have hlb : i < a.nodes.length := by omega
    try (simp [hlt])
    repeat (refine sR ?_; simp [hlt])
    refine sC ?_
    simp
    refine ⟨fun he => ?_, fun hne => ?_⟩
    · try (simp [hlb])
      repeat (refine sR ?_; simp [hlb])
      refine ⟨⟨by omega, htk.live⟩, ?_⟩
      try (simp [hw])
      repeat (refine sR ?_; simp [hw])
      refine sE ?_
      exact ⟨⟨i + 1, _, _, _⟩, ⟨hlt, htk.app⟩, by simp only; omega, Weaks.mk htk.app.le rfl (by simp [ToL, lk]) (by simp [BoxL, lk, repN, hlt, hlb, he])⟩
    · try (simp [hw])
      repeat (refine sR ?_; simp [hw])
      refine sE ?_
      exact ⟨⟨i + 1, own, tok', nt'⟩, ⟨hlt, htk⟩, by simp only; omega, Weaks.mk htk.le rfl (by simp [ToL, lk]) (by simp [BoxL, lk, repN, hlt, hlb, hne])⟩
  · refine sX ?_
    simp only [AU, ↓reduceIte]
    have : i = L1.length := by omega
    subst this
    try (simp)
    repeat (refine sR ?_; simp)
    refine sN ?_
    have htk2 := htk.tail.full
    refine AL.loopT (stPq2 a L1 L2 q1n q2n nb box) (fun x => x.i ≤ L2.length ∧ TK tok nt x.tok x.nt [x.own]) (fun x => L2.length - x.i) ⟨0, .full, tok', nt'⟩ ⟨Nat.zero_le _, htk2⟩ (Weaks.mk htk2.le rfl (by simp [ToL, lk]) (by simp [BoxL, lk, repE])) ?_
    rintro ⟨i, own2, tok', nt'⟩ S ⟨hi, htk⟩ hS
    simp only [stPq2] at hS hi htk
    subst hS
    have hw := sW (i := i) (by omega)
    have hle := repE_len a.edges q1n L2 i
    try (simp)
    repeat (refine sR ?_; simp)
    refine sC ?_
    simp
    refine ⟨fun hlt => ?_, fun hge => ?_⟩
    · have hlb : i < a.edges.length := by omega
      obtain ⟨x1, x2, x3, x4⟩ := hx _ (List.getElem_mem hlb)
      have hq1 : q1n.length = a.nodes.length := by omega
      have y1 : a.edges[i].fr.toNat < q1n.length := by omega
      have y2 : a.edges[i].to.toNat < q1n.length := by omega
      rw [← hq1] at x2 x4
      try (simp [hlt])
      repeat (refine sR ?_; simp [hlt])
      refine sC ?_
      simp
      refine ⟨fun he => ?_, fun hne => ?_⟩
      · try (simp [hlb, x1, x2, x3, x4, y1, y2])
        repeat (refine sR ?_; simp [hlb, x1, x2, x3, x4, y1, y2])
        refine ⟨⟨by omega, htk.live⟩, ?_⟩
        try (simp [hw])
        repeat (refine sR ?_; simp [hw])
        refine sE ?_
        exact ⟨⟨i + 1, _, _, _⟩, ⟨hlt, htk.app⟩, by simp only; omega, Weaks.mk htk.app.le rfl (by simp [ToL, lk]) (by simp [BoxL, lk, repE, hlt, hlb, he, y1, y2])⟩
      · try (simp [hw])
        repeat (refine sR ?_; simp [hw])
        refine sE ?_
        exact ⟨⟨i + 1, own2, tok', nt'⟩, ⟨hlt, htk⟩, by simp only; omega, Weaks.mk htk.le rfl (by simp [ToL, lk]) (by simp [BoxL, lk, repE, hlt, hlb, hne])⟩
    · refine sX ?_
      simp only [AU, ↓reduceIte]
      have : i = L2.length := by omega
      subst this
      try (simp)
      repeat (refine sR ?_; simp)
      refine sT ?_
      try simp only [AU]
      refine ⟨by simp, sF hbox htok htk.old htk.le ?_⟩
      simp [packA, ]
end Go.AM
namespace Go.AM
open Go Go.Proofs
theorem pthen_c (m n : Mo) (hm : m.Fit) (hn : ∀ x ∈ m.nodes, 0 ≤ x ∧ x < n.nodes.length) (he : ∀ x ∈ m.edges, 0 ≤ x ∧ x < n.edges.length) (tok : Nat → Bool) (nt : Nat) : DCall Tryz.prog 205 [m.av, n.av] tok nt (thenM m n).av tok nt := by
  intro box nb
  have h1 := follow_c m.nodes n.nodes hm.n hn
  have h2 := follow_c m.edges n.edges hm.e he
  refine sB Tryz.func205 Tryz.ntmps205 ?_
  intro hbox htok
  simp only at hbox htok
  apply AL.start
  try (simp)
  repeat (refine sR ?_; simp)
  refine Stop.of_d (h1 _ _) ?_
  simp
  try (simp)
  repeat (refine sR ?_; simp)
  refine Stop.of_d (h2 _ _) ?_
  simp
  try (simp)
  repeat (refine sR ?_; simp)
  refine sT ?_
  try simp only [AU]
  refine ⟨by simp, sF hbox htok (fun _ h => h) (Nat.le_refl _) ?_⟩
  simp [packA, thenM]
theorem pspan_c (a b c : Gr) (f g : Mo) (ha : a.Fit) (hb : b.Fit) (hc : c.Fit) (hf : validM a b f = 0) (hg : validM a c g = 0) (tok : Nat → Bool) (nt : Nat) : DCall Tryz.prog 142 [spanAv a b c f g] tok nt (I 0) tok nt := by
  intro box nb
  have h1 := valid51_c a b f ha hb
  have h2 := valid51_c a c g ha hc
  rw [hf] at h1
  rw [hg] at h2
  refine sB Tryz.func142 Tryz.ntmps142 ?_
  intro hbox htok
  simp only at hbox htok
  apply AL.start
  try (simp)
  repeat (refine sR ?_; simp)
  refine Stop.of_d (h1 _ _) ?_
  simp
  try (simp)
  repeat (refine sR ?_; simp)
  refine sC ?_
  simp
  try (simp)
  repeat (refine sR ?_; simp)
  refine Stop.of_d (h2 _ _) ?_
  simp
  try (simp)
  repeat (refine sR ?_; simp)
  refine sT ?_
  try simp only [AU]
  refine ⟨by simp, sF hbox htok (fun _ h => h) (Nat.le_refl _) ?_⟩
  simp [packA]
theorem pglue_c (a b c : Gr) (f g : Mo) (hf : Emb a b f) (hg : Emb a c g) (tok : Nat → Bool) (nt : Nat) :
    DCall Tryz.prog 143 [spanAv a b c f g] tok nt (.tup [(pushR b c f g).1.g.av, (pushR b c f g).1.l.av, (pushR b c f g).1.r.av, I (pushR b c f g).2]) tok nt := by
  intro box nb
  obtain ⟨ff, fa, fb⟩ := hf.fit
  obtain ⟨fg, _, fc⟩ := hg.fit
  have v := hf.vm
  have w := hg.vm
  have hun := union_c b c fb fc v.vb w.vb
  refine sB Tryz.func143 Tryz.ntmps143 ?_
  intro hbox htok
  simp only at hbox htok
  apply AL.start
  try (simp)
  repeat (refine sR ?_; simp)
  refine Stop.of_d (hun _ _) ?_
  simp
  by_cases hb : poBig b c
  · have hb' : 40 < b.nodes.length + c.nodes.length ∨ 80 < b.edges.length + c.edges.length := hb
    have hR : pushR b c f g = (⟨⟨[], []⟩, ⟨[], []⟩, ⟨[], []⟩⟩, 3) := if_pos hb
    rw [if_pos hb']
    try (simp)
    repeat (refine sR ?_; simp)
    refine sC ?_
    simp
    try (simp)
    repeat (refine sR ?_; simp)
    refine sT ?_
    try simp only [AU]
    refine ⟨by simp, sF hbox htok (fun _ h => h) (Nat.le_refl _) ?_⟩
    simp [packA, hR, ints, AM.edges]
  · have hb' : ¬ (40 < b.nodes.length + c.nodes.length ∨ 80 < b.edges.length + c.edges.length) := hb
    have hR : pushR b c f g = (pushO b c f g, 0) := if_neg hb
    rw [if_neg hb']
    have hp := spn_pair hf hg
    obtain ⟨rl1, rl2, rl3⟩ := pushO_r hp
    have mn := mt_n hf hg
    have me := mt_e hf hg
    have p1 := ppairs_c f.nodes g.nodes (iota b.nodes.length) (iotaF b.nodes.length c.nodes.length) b.nodes.length mn.l ff.n v.n (by rw [iotaF_len]; exact w.n) rfl (by rw [iotaF_len])
    have p2 := ppairs_c f.edges g.edges (iota b.edges.length) (iotaF b.edges.length c.edges.length) b.edges.length me.l ff.e v.e (by rw [iotaF_len]; exact w.e) rfl (by rw [iotaF_len])
    have hfit := unG_fit hb'
    have ln : (unG b c).nodes.length = b.nodes.length + c.nodes.length := by simp [unG]
    have le : (unG b c).edges.length = b.edges.length + c.edges.length := by simp [unG]
    have g1 := generateP_c b.nodes.length c.nodes.length f.nodes g.nodes mn (by omega)
    have g2 := generateP_c b.edges.length c.edges.length f.edges g.edges me (by omega)
    rw [← ln] at g1
    rw [← le] at g2
    have q := pquotient_c (unG b c) _ _ _ _ hfit g1 g2 (by rw [genX_len, mtI_len, ln]) (by rw [genX_len, mtI_len, le]) (by omega) (genX_part (isM_in hp.1)) (genX_part (isM_in hp.2)) (unG_ok (validG_edges v.vb) (validG_edges w.vb))
    rw [quot_glue (validG_edges v.vb) (validG_edges w.vb) hp] at q
    have hpo : glue b c (mtI f.nodes g.nodes c.nodes.length) (mtI f.edges g.edges c.edges.length) = pushO b c f g := rfl
    rw [hpo] at q
    have e3 : thenM (idM b) ⟨iota b.nodes.length ++ (pushO b c f g).r.nodes, iota b.edges.length ++ (pushO b c f g).r.edges⟩ = idM b := by simp only [thenM, idM, byK_lo]
    have e4 : thenM ⟨iotaF b.nodes.length c.nodes.length, iotaF b.edges.length c.edges.length⟩ ⟨iota b.nodes.length ++ (pushO b c f g).r.nodes, iota b.edges.length ++ (pushO b c f g).r.edges⟩ = (pushO b c f g).r := by
      simp only [thenM]
      rw [← rl1, ← rl2, byK_hi, byK_hi]
    have i1 : ∀ (n : Nat) (r : List Int), ∀ x ∈ iota n, 0 ≤ x ∧ x < (iota n ++ r).length := fun n r x hx => by
      obtain ⟨j, hj, rfl⟩ := mem_getD hx
      rw [iota_len] at hj
      rw [iota_getD hj, List.length_append, iota_len]
      omega
    have i2 : ∀ (n k : Nat) (r : List Int), r.length = k → ∀ x ∈ iotaF n k, 0 ≤ x ∧ x < (iota n ++ r).length := fun n k r hr x hx => by
      obtain ⟨j, hj, rfl⟩ := mem_getD hx
      rw [iotaF_len] at hj
      rw [iotaF_get hj, List.length_append, iota_len]
      omega
    have t3 := pthen_c (idM b) ⟨iota b.nodes.length ++ (pushO b c f g).r.nodes, iota b.edges.length ++ (pushO b c f g).r.edges⟩ ⟨by simp only [idM, iota_len]; exact fb.n, by simp only [idM, iota_len]; exact fb.e⟩ (i1 _ _) (i1 _ _)
    have t4 := pthen_c ⟨iotaF b.nodes.length c.nodes.length, iotaF b.edges.length c.edges.length⟩ ⟨iota b.nodes.length ++ (pushO b c f g).r.nodes, iota b.edges.length ++ (pushO b c f g).r.edges⟩ ⟨by simp only [iotaF_len]; exact fc.n, by simp only [iotaF_len]; exact fc.e⟩ (i2 _ _ _ rl1) (i2 _ _ _ rl2)
    rw [e3] at t3
    rw [e4] at t4
    rw [hR]
    simp only
    rw [rl3]
    have hid : idM b = ⟨iota b.nodes.length, iota b.edges.length⟩ := rfl
    rw [hid] at t3 ⊢
    generalize pushO b c f g = o at *
    generalize unG b c = u at *
    generalize (⟨iota b.nodes.length ++ o.r.nodes, iota b.edges.length ++ o.r.edges⟩ : Mo) = qq at *
    generalize prK b.nodes.length f.nodes g.nodes f.nodes.length = r1 at *
    generalize prK b.edges.length f.edges g.edges f.edges.length = r2 at *
    generalize iotaF b.nodes.length c.nodes.length = j1 at *
    generalize iotaF b.edges.length c.edges.length = j2 at *
    generalize iota b.nodes.length = k1 at *
    generalize iota b.edges.length = k2 at *
    try (simp)
    repeat (refine sR ?_; simp)
    refine sC ?_
    simp
    try (simp)
    repeat (refine sR ?_; simp)
    refine Stop.of_d (p1 _ _) ?_
    simp
    try (simp)
    repeat (refine sR ?_; simp)
    refine Stop.of_d (p2 _ _) ?_
    simp
    try (simp)
    repeat (refine sR ?_; simp)
    refine Stop.of_d (q _ _) ?_
    simp
    try (simp)
    repeat (refine sR ?_; simp)
    refine sC ?_
    simp
    try (simp)
    repeat (refine sR ?_; simp)
    refine Stop.of_d (t3 _ _) ?_
    simp
    try (simp)
    repeat (refine sR ?_; simp)
    refine Stop.of_d (t4 _ _) ?_
    simp
    try (simp)
    repeat (refine sR ?_; simp)
    refine sT ?_
    try simp only [AU]
    refine ⟨by simp, sF hbox htok (fun _ h => h) (Nat.le_refl _) ?_⟩
    simp [packA]
theorem pushP_c (a b c : Gr) (f g : Mo) (hf : Emb a b f) (hg : Emb a c g) (tok : Nat → Bool) (nt : Nat) :
    DCall Tryz.prog 81 [spanAv a b c f g] tok nt (.tup [(pushR b c f g).1.g.av, (pushR b c f g).1.l.av, (pushR b c f g).1.r.av, I (pushR b c f g).2]) tok nt := by
  intro box nb
  obtain ⟨ff, fa, fb⟩ := hf.fit
  obtain ⟨fg, _, fc⟩ := hg.fit
  have h1 := pspan_c a b c f g fa fb fc hf.v hg.v
  have h2 := pglue_c a b c f g hf hg
  refine sB Tryz.func81 Tryz.ntmps81 ?_
  intro hbox htok
  simp only at hbox htok
  apply AL.start
  try (simp)
  repeat (refine sR ?_; simp)
  refine Stop.of_d (h1 _ _) ?_
  simp
  try (simp)
  repeat (refine sR ?_; simp)
  refine sC ?_
  simp
  try (simp)
  repeat (refine sR ?_; simp)
  refine Stop.of_d (h2 _ _) ?_
  simp
  try (simp)
  repeat (refine sR ?_; simp)
  refine sT ?_
  try simp only [AU]
  refine ⟨by simp, sF hbox htok (fun _ h => h) (Nat.le_refl _) ?_⟩
  simp [packA]
end Go.AM
namespace Go.AM
open Go Go.Proofs
theorem yes_c (tok : Nat → Bool) (nt : Nat) : DCall Tryz.prog 59 [] tok nt (cdOf 1 []).av tok nt := by
  intro box nb
  refine sB Tryz.func59 Tryz.ntmps59 ?_
  intro hbox htok
  simp only at hbox htok
  apply AL.start
  try (simp)
  repeat (refine sR ?_; simp)
  refine sT ?_
  try simp only [AU]
  refine ⟨by simp, sF hbox htok (fun _ h => h) (Nat.le_refl _) ?_⟩
  simp [packA, cdOf, Cd.kind, Cd.kids, Cd.m, Cd.g, Cd.sl, Cd.vars, Cd.te, conds, ints, AM.edges, slots, tests]
theorem no_c (tok : Nat → Bool) (nt : Nat) : DCall Tryz.prog 132 [] tok nt noC.av tok nt := by
  intro box nb
  have h := yes_c
  refine sB Tryz.func132 Tryz.ntmps132 ?_
  intro hbox htok
  simp only at hbox htok
  apply AL.start
  try (simp)
  repeat (refine sR ?_; simp)
  refine Stop.of_d (h _ _) ?_
  simp
  try (simp)
  repeat (refine sR ?_; simp)
  refine sT ?_
  try simp only [AU]
  refine ⟨by simp, sF hbox htok (fun _ h => h) (Nat.le_refl _) ?_⟩
  simp [packA, noC, Cd.cells, Cd.rows, cdOf, Cd.kind, Cd.kids, Cd.m, Cd.g, Cd.sl, Cd.vars, Cd.te, conds, ints, AM.edges, slots, tests]
theorem tof_c (r : Ru) (tok : Nat → Bool) (nt : Nat) : DCall Tryz.prog 43 [r.av] tok nt (spAv r.sp) tok nt := by
  intro box nb
  refine sB Tryz.func43 Tryz.ntmps43 ?_
  intro hbox htok
  simp only at hbox htok
  apply AL.start
  try (simp)
  repeat (refine sR ?_; simp)
  refine sT ?_
  try simp only [AU]
  refine ⟨by simp, sF hbox htok (fun _ h => h) (Nat.le_refl _) ?_⟩
  simp [packA, Ru.sp]
def stAt (l images : List Int) (nb : Nat) (box : Nat → Option (List (List AV))) (x : Acc) : AState := ⟨tl [(11, I x.i), (10, I images.length), (9, .d (ints images)), (0, .d (ints l)), (5, .osl 1 (rI (mapK (indexI l) images x.i)) x.own)], lb nb box [], x.tok, x.nt⟩
theorem at_c (l images : List Int) (h1 : l.length ≤ 1000000) (h2 : images.length ≤ 1000000) (tok : Nat → Bool) (nt : Nat) : DCall Tryz.prog 216 [.d (ints l), .d (ints images)] tok nt (.d (ints (images.map (indexI l)))) tok nt := by
  rw [← mapK_all]
  intro box nb
  have hh := fun v => index_c l v h1
  refine sB Tryz.func216 Tryz.ntmps216 ?_
  intro hbox htok
  simp only at hbox htok
  apply AL.start
  try (simp)
  repeat (refine sR ?_; simp)
  refine sN ?_
  refine AL.loopT (stAt l images nb box) (fun x => x.i ≤ images.length ∧ TK tok nt x.tok x.nt [x.own]) (fun x => images.length - x.i) ⟨0, .full, tok, nt⟩ ⟨Nat.zero_le _, (TK.start htok).full⟩ (Weaks.mk (Nat.le_refl _) rfl (by simp [ToL, lk, mapK_zero]) trivial) ?_
  rintro ⟨i, own, tok', nt'⟩ S ⟨hi, htk⟩ hS
  simp only [stAt] at hS hi htk
  subst hS
  have hw := sW (i := i) (by omega)
  have hlen := mapK_len (indexI l) images i
  try (simp)
  repeat (refine sR ?_; simp)
  refine sC ?_
  simp
  refine ⟨fun hlt => ?_, fun hge => ?_⟩
  · have hsc := mapK_succ (indexI l) images hlt
    try (simp [hlt])
    repeat (refine sR ?_; simp [hlt])
    refine Stop.of_d (hh _ _ _) ?_
    simp
    try (simp)
    repeat (refine sR ?_; simp)
    refine ⟨⟨by omega, htk.live⟩, ?_⟩
    try (simp [hw])
    repeat (refine sR ?_; simp [hw])
    refine sE ?_
    exact ⟨⟨i + 1, _, _, _⟩, ⟨hlt, htk.app⟩, by simp only; omega, Weaks.mk htk.app.le rfl (by simp [ToL, lk, hsc]) trivial⟩
  · refine sX ?_
    simp only [AU, ↓reduceIte]
    have : i = images.length := by omega
    subst this
    try (simp)
    repeat (refine sR ?_; simp)
    refine sT ?_
    try simp only [AU]
    refine ⟨by simp, sF hbox htok htk.old htk.le ?_⟩
    simp [packA, ]
def stPk (l which : List Int) (nb : Nat) (box : Nat → Option (List (List AV))) (x : Acc) : AState := ⟨tl [(11, I x.i), (10, I which.length), (9, .d (ints which)), (0, .d (ints l)), (5, .osl 1 (rI (byK which l x.i)) x.own)], lb nb box [], x.tok, x.nt⟩
theorem picked_c (l which : List Int) (h2 : which.length ≤ 1000000) (hr : ∀ x ∈ which, 0 ≤ x ∧ x < l.length) (tok : Nat → Bool) (nt : Nat) : DCall Tryz.prog 217 [.d (ints l), .d (ints which)] tok nt (.d (ints (byK which l which.length))) tok nt := by
  intro box nb
  refine sB Tryz.func217 Tryz.ntmps217 ?_
  intro hbox htok
  simp only at hbox htok
  apply AL.start
  try (simp)
  repeat (refine sR ?_; simp)
  refine sN ?_
  refine AL.loopT (stPk l which nb box) (fun x => x.i ≤ which.length ∧ TK tok nt x.tok x.nt [x.own]) (fun x => which.length - x.i) ⟨0, .full, tok, nt⟩ ⟨Nat.zero_le _, (TK.start htok).full⟩ (Weaks.mk (Nat.le_refl _) rfl (by simp [ToL, lk, byK_zero]) trivial) ?_
  rintro ⟨i, own, tok', nt'⟩ S ⟨hi, htk⟩ hS
  simp only [stPk] at hS hi htk
  subst hS
  have hw := sW (i := i) (by omega)
  try (simp)
  repeat (refine sR ?_; simp)
  refine sC ?_
  simp
  refine ⟨fun hlt => ?_, fun hge => ?_⟩
  · obtain ⟨x0, x1⟩ := hr _ (List.getElem_mem hlt)
    have x2 : which[i].toNat < l.length := by omega
    try (simp [hlt, x0, x1, x2])
    repeat (refine sR ?_; simp [hlt, x0, x1, x2])
    refine ⟨⟨by omega, htk.live⟩, ?_⟩
    try (simp [hw])
    repeat (refine sR ?_; simp [hw])
    refine sE ?_
    exact ⟨⟨i + 1, _, _, _⟩, ⟨hlt, htk.app⟩, by simp only; omega, Weaks.mk htk.app.le rfl (by simp [ToL, lk, byK_succ which l hlt, x2]) trivial⟩
  · refine sX ?_
    simp only [AU, ↓reduceIte]
    have : i = which.length := by omega
    subst this
    try (simp)
    repeat (refine sR ?_; simp)
    refine sT ?_
    try simp only [AU]
    refine ⟨by simp, sF hbox htok htk.old htk.le ?_⟩
    simp [packA, ]
def stBk (part into keep : List Int) (nb : Nat) (box : Nat → Option (List (List AV))) (x : Acc) : AState := ⟨tl [(13, I x.i), (12, I part.length), (11, .d (ints part)), (1, .d (ints into)), (2, .d (ints keep)), (7, .osl 1 (rI (byK (part.map (indexI into)) keep x.i)) x.own)], lb nb box [], x.tok, x.nt⟩
theorem backwards_c (part into keep : List Int) (h1 : part.length ≤ 1000000) (h2 : into.length ≤ 1000000) (hs : ∀ x ∈ part, x ∈ into) (hk : into.length ≤ keep.length) (tok : Nat → Bool) (nt : Nat) :
    DCall Tryz.prog 127 [.d (ints part), .d (ints into), .d (ints keep)] tok nt (.d (ints (byK (part.map (indexI into)) keep (part.map (indexI into)).length))) tok nt := by
  intro box nb
  have hh := fun v => index_c into v h2
  refine sB Tryz.func127 Tryz.ntmps127 ?_
  intro hbox htok
  simp only at hbox htok
  apply AL.start
  try (simp)
  repeat (refine sR ?_; simp)
  refine sN ?_
  refine AL.loopT (stBk part into keep nb box) (fun x => x.i ≤ part.length ∧ TK tok nt x.tok x.nt [x.own]) (fun x => part.length - x.i) ⟨0, .full, tok, nt⟩ ⟨Nat.zero_le _, (TK.start htok).full⟩ (Weaks.mk (Nat.le_refl _) rfl (by simp [ToL, lk, byK_zero]) trivial) ?_
  rintro ⟨i, own, tok', nt'⟩ S ⟨hi, htk⟩ hS
  simp only [stBk] at hS hi htk
  subst hS
  have hw := sW (i := i) (by omega)
  try (simp)
  repeat (refine sR ?_; simp)
  refine sC ?_
  simp
  refine ⟨fun hlt => ?_, fun hge => ?_⟩
  · obtain ⟨x0, x1⟩ := mem_indexI hs i hlt
    have x2 : (indexI into part[i]).toNat < keep.length := by omega
    have x3 : indexI into part[i] < keep.length := by omega
    have hsc := byK_succ (part.map (indexI into)) keep (i := i) (by simpa using hlt)
    rw [List.getElem_map] at hsc
    try (simp [hlt])
    repeat (refine sR ?_; simp [hlt])
    refine Stop.of_d (hh _ _ _) ?_
    simp
    try (simp [x0, x2, x3])
    repeat (refine sR ?_; simp [x0, x2, x3])
    refine ⟨⟨by omega, htk.live⟩, ?_⟩
    try (simp [hw])
    repeat (refine sR ?_; simp [hw])
    refine sE ?_
    exact ⟨⟨i + 1, _, _, _⟩, ⟨hlt, htk.app⟩, by simp only; omega, Weaks.mk htk.app.le rfl (by simp [ToL, lk, hsc, x2]) trivial⟩
  · refine sX ?_
    simp only [AU, ↓reduceIte]
    have : i = part.length := by omega
    subst this
    try (simp)
    repeat (refine sR ?_; simp)
    refine sT ?_
    try simp only [AU]
    refine ⟨by simp, sF hbox htok htk.old htk.le ?_⟩
    simp [packA, ]
def stSt (r : Ru) (nb : Nat) (box : Nat → Option (List (List AV))) (tok : Nat → Bool) (nt : Nat) (i : Nat) : AState :=
  ⟨tl [(72, I i), (71, I 2), (70, .osl 5 [[ints r.lg.nodes, AM.edges r.lg.edges, slots r.lsl, .raw (.int .i64 r.lv), tests r.lte], [ints r.rg.nodes, AM.edges r.rg.edges, slots r.rsl, .raw (.int .i64 r.rv), tests r.rte]] .full), (1, .ptr (nb + 1) 0 0)], lb nb box [(1, [r.row])], tok, nt⟩
theorem structural_c (r : Ru) (hr : r.Fit) (tok : Nat → Bool) (nt : Nat) : DCall Tryz.prog 41 [r.av] tok nt (I (strR r)) tok nt := by
  intro box nb
  have h1 := graphValid_c r.lg hr.lg
  have h2 := graphValid_c r.rg hr.rg
  have h3 := validP_c r.lg r.k hr.lg hr.k
  have h4 := fun h => extractP_c r.lg r.k hr.lg hr.k h
  have h5 := fun h => valid51_c (exG r.lg r.k) r.rg r.i h hr.rg
  have h6 := fun h => injective56_c (exG r.lg r.k) r.rg r.i h hr.rg hr.i
  refine sB Tryz.func41 Tryz.ntmps41 ?_
  intro hbox htok
  simp only at hbox htok
  apply AL.start
  try (simp)
  repeat (refine sR ?_; simp)
  refine Stop.of_d (h1 _ _) ?_
  simp
  try (simp)
  repeat (refine sR ?_; simp)
  by_cases e1 : validG r.lg = 0
  · simp only [e1]
    refine sC ?_
    simp
    try (simp)
    repeat (refine sR ?_; simp)
    refine Stop.of_d (h2 _ _) ?_
    simp
    try (simp)
    repeat (refine sR ?_; simp)
    by_cases e2 : validG r.rg = 0
    · simp only [e2]
      refine sC ?_
      simp
      try (simp)
      repeat (refine sR ?_; simp)
      refine Stop.of_d (h3 _ _) ?_
      simp
      try (simp)
      repeat (refine sR ?_; simp)
      by_cases e3 : validP r.lg r.k = 0
      · simp only [e3]
        refine sC ?_
        simp
        try (simp)
        repeat (refine sR ?_; simp)
        have hp := VP.of e3
        have hx := hp.emb.fit.2.1
        refine Stop.of_d (h4 hp _ _) ?_
        simp
        try (simp)
        repeat (refine sR ?_; simp)
        refine sC ?_
        simp
        try (simp)
        repeat (refine sR ?_; simp)
        refine Stop.of_d (h5 hx _ _) ?_
        simp
        try (simp)
        repeat (refine sR ?_; simp)
        by_cases e4 : validM (exG r.lg r.k) r.rg r.i = 0
        · simp only [e4]
          refine sC ?_
          simp
          try (simp)
          repeat (refine sR ?_; simp)
          refine Stop.of_d (h6 hx _ _) ?_
          simp
          try (simp)
          repeat (refine sR ?_; simp)
          cases e5 : injM (exG r.lg r.k) r.rg r.i
          · refine sC ?_
            simp
            try (simp)
            repeat (refine sR ?_; simp)
            refine sT ?_
            try simp only [AU]
            refine ⟨by simp, sF hbox htok (fun _ h => h) (Nat.le_refl _) ?_⟩
            simp [packA, strR, e1, e2, e3, e4, e5]
          · refine sC ?_
            simp
            try (simp)
            repeat (refine sR ?_; simp)
            have hls := hr.ls
            have hlt := hr.lt
            have hrs := hr.rs
            have hrt := hr.rt
            rw [bigN_eq] at hls hlt hrs hrt
            have w1 : IntKind.i64.wrap ((r.lsl.length : Int) + r.lte.length) = ((r.lsl.length + r.lte.length : Nat) : Int) := by rw [wrap_in (by omega) (by omega)]; omega
            have w2 : IntKind.i64.wrap ((r.rsl.length : Int) + r.rte.length) = ((r.rsl.length + r.rte.length : Nat) : Int) := by rw [wrap_in (by omega) (by omega)]; omega
            refine ⟨rfl, ?_⟩
            try (simp)
            repeat (refine sR ?_; simp)
            refine sN ?_
            refine AL.loopT (stSt r nb box tok nt) (fun i => i ≤ 2 ∧ (1 ≤ i → r.plainL) ∧ (2 ≤ i → r.plainR)) (fun i => 2 - i) 0 ⟨by omega, by omega, by omega⟩ (Weaks.mk (Nat.le_refl _) rfl (by simp [ToL, lk]) (by simp [BoxL, lk])) ?_
            rintro i S ⟨hi, hpl, hpr⟩ hS
            simp only [stSt] at hS
            subst hS
            obtain rfl | rfl | rfl : i = 0 ∨ i = 1 ∨ i = 2 := by omega
            · have hw : IntKind.i64.wrap 1 = 1 := rfl
              try (simp)
              repeat (refine sR ?_; simp)
              refine sC ?_
              simp
              by_cases s1 : (0 : Int) < (r.lsl.length : Int) + r.lte.length
              · have hne : ¬ r.plainL := fun h => by have := h.1; omega
                try (simp [w1, s1])
                repeat (refine sR ?_; simp [w1, s1])
                refine sC ?_
                simp
                try (simp)
                repeat (refine sR ?_; simp)
                refine sT ?_
                try simp only [AU]
                refine ⟨by simp, sF hbox htok (fun _ h => h) (Nat.le_refl _) ?_⟩
                simp [packA, strR, e1, e2, e3, e4, e5, hne]
              · by_cases s2 : r.lv = 0
                · have hyes : r.plainL := ⟨by omega, s2⟩
                  have b2 : (r.lv != 0) = false := by simp [s2]
                  try (simp [w1, s1, b2])
                  repeat (refine sR ?_; simp [w1, s1, b2])
                  refine sC ?_
                  simp
                  try (simp [hw])
                  repeat (refine sR ?_; simp [hw])
                  refine sE ?_
                  exact ⟨1, ⟨by omega, fun _ => hyes, by omega⟩, by omega, Weaks.mk (Nat.le_refl _) rfl (by simp [ToL, lk]) (by simp [BoxL, lk])⟩
                · have hne : ¬ r.plainL := fun h => s2 h.2
                  have b2 : (r.lv != 0) = true := by simp [s2]
                  try (simp [w1, s1, b2])
                  repeat (refine sR ?_; simp [w1, s1, b2])
                  refine sC ?_
                  simp
                  try (simp)
                  repeat (refine sR ?_; simp)
                  refine sT ?_
                  try simp only [AU]
                  refine ⟨by simp, sF hbox htok (fun _ h => h) (Nat.le_refl _) ?_⟩
                  simp [packA, strR, e1, e2, e3, e4, e5, hne]
            · have hw : IntKind.i64.wrap 2 = 2 := rfl
              have hl := hpl (by omega)
              try (simp)
              repeat (refine sR ?_; simp)
              refine sC ?_
              simp
              by_cases s1 : (0 : Int) < (r.rsl.length : Int) + r.rte.length
              · have hne : ¬ r.plainR := fun h => by have := h.1; omega
                try (simp [w2, s1])
                repeat (refine sR ?_; simp [w2, s1])
                refine sC ?_
                simp
                try (simp)
                repeat (refine sR ?_; simp)
                refine sT ?_
                try simp only [AU]
                refine ⟨by simp, sF hbox htok (fun _ h => h) (Nat.le_refl _) ?_⟩
                simp [packA, strR, e1, e2, e3, e4, e5, hne]
              · by_cases s2 : r.rv = 0
                · have hyes : r.plainR := ⟨by omega, s2⟩
                  have b2 : (r.rv != 0) = false := by simp [s2]
                  try (simp [w2, s1, b2])
                  repeat (refine sR ?_; simp [w2, s1, b2])
                  refine sC ?_
                  simp
                  try (simp [hw])
                  repeat (refine sR ?_; simp [hw])
                  refine sE ?_
                  exact ⟨2, ⟨by omega, fun _ => hl, fun _ => hyes⟩, by omega, Weaks.mk (Nat.le_refl _) rfl (by simp [ToL, lk]) (by simp [BoxL, lk])⟩
                · have hne : ¬ r.plainR := fun h => s2 h.2
                  have b2 : (r.rv != 0) = true := by simp [s2]
                  try (simp [w2, s1, b2])
                  repeat (refine sR ?_; simp [w2, s1, b2])
                  refine sC ?_
                  simp
                  try (simp)
                  repeat (refine sR ?_; simp)
                  refine sT ?_
                  try simp only [AU]
                  refine ⟨by simp, sF hbox htok (fun _ h => h) (Nat.le_refl _) ?_⟩
                  simp [packA, strR, e1, e2, e3, e4, e5, hne]
            · have hl := hpl (by omega)
              have hr2 := hpr (by omega)
              try (simp)
              repeat (refine sR ?_; simp)
              refine sC ?_
              simp
              refine sX ?_
              simp only [AU, ↓reduceIte]
              try (simp)
              repeat (refine sR ?_; simp)
              cases hin : r.inj
              · refine sC ?_
                simp
                try (simp)
                repeat (refine sR ?_; simp)
                refine sT ?_
                try simp only [AU]
                refine ⟨by simp, sF hbox htok (fun _ h => h) (Nat.le_refl _) ?_⟩
                simp [packA, strR, e1, e2, e3, e4, e5, hl, hr2, hin]
              · refine sC ?_
                simp
                try (simp)
                repeat (refine sR ?_; simp)
                refine sT ?_
                try simp only [AU]
                refine ⟨by simp, sF hbox htok (fun _ h => h) (Nat.le_refl _) ?_⟩
                simp [packA, strR, e1, e2, e3, e4, e5, hl, hr2, hin]
        · have b4 : (validM (exG r.lg r.k) r.rg r.i != 0) = true := by simp [e4]
          simp only [b4]
          refine sC ?_
          simp
          try (simp)
          repeat (refine sR ?_; simp)
          refine sT ?_
          try simp only [AU]
          refine ⟨by simp, sF hbox htok (fun _ h => h) (Nat.le_refl _) ?_⟩
          simp [packA, strR, e1, e2, e3, e4]
      · have b3 : (validP r.lg r.k != 0) = true := by simp [e3]
        simp only [b3]
        refine sC ?_
        simp
        try (simp)
        repeat (refine sR ?_; simp)
        refine sT ?_
        try simp only [AU]
        refine ⟨by simp, sF hbox htok (fun _ h => h) (Nat.le_refl _) ?_⟩
        simp [packA, strR, e1, e2, e3]
    · have b2 : (validG r.rg != 0) = true := by simp [e2]
      simp only [b2]
      refine sC ?_
      simp
      try (simp)
      repeat (refine sR ?_; simp)
      refine sT ?_
      try simp only [AU]
      refine ⟨by simp, sF hbox htok (fun _ h => h) (Nat.le_refl _) ?_⟩
      simp [packA, strR, e1, e2]
  · have b1 : (validG r.lg != 0) = true := by simp [e1]
    simp only [b1]
    refine sC ?_
    simp
    try (simp)
    repeat (refine sR ?_; simp)
    refine sT ?_
    try simp only [AU]
    refine ⟨by simp, sF hbox htok (fun _ h => h) (Nat.le_refl _) ?_⟩
    simp [packA, strR, e1]
end Go.AM
namespace Go.AM
open Go Go.Proofs
theorem sortI_asc {l : List Int} {n : Nat} (hn : l.Nodup) (hr : ∀ x ∈ l, 0 ≤ x ∧ x < n) : sortI l = ascL l n := by
  have hp : (sortI l).Perm l := List.mergeSort_perm _ _
  have hs : (sortI l).Pairwise fun a b => (decide (a ≤ b)) = true := List.pairwise_mergeSort (fun a b c h1 h2 => by simp only [decide_eq_true_eq] at *; omega) (fun a b => by simp only [Bool.or_eq_true, decide_eq_true_eq]; omega) l
  have hd : (sortI l).Nodup := hp.nodup_iff.2 hn
  refine pw_ext (List.Pairwise.imp₂ (fun a b h1 h2 => ?_) hs hd) (ascL_pw _ _) fun x => ?_
  · simp only [decide_eq_true_eq] at h1
    have : a ≠ b := h2
    omega
  · rw [hp.mem_iff, ascL_mem]
    exact ⟨fun h => ⟨h, hr x h⟩, fun h => h.1⟩
theorem imgP_sort {a y : Gr} {q : Mo} (hq : Emb a y q) : (imgP y q) = ⟨sortI q.nodes, sortI q.edges⟩ := by
  have v := hq.vm
  rw [imgP, sortI_asc hq.n v.n, sortI_asc hq.e v.e]
theorem SpOk.fit {s : Sp} (h : SpOk s) : s.l.Fit ∧ s.r.Fit ∧ s.k.Fit ∧ s.i.Fit := ⟨h.k.emb.fit.2.2, h.i.fit.2.2, h.k.emb.fit.1, h.i.fit.1⟩
set_option maxRecDepth 100000 in
theorem exists_c (c x : Cd) (hkx : c.kids = [x]) (k5 : c.kind = 5) (s : Sp) (hs : SpOk s) (hm : Emb s.r c.g c.m)
    (ih : s.dng c.m c.g = false → ¬ s.big c.m c.g → ∀ (tok : Nat → Bool) (nt : Nat), DCall Tryz.prog 93 [spAv (s.inn c.m c.g), x.av] tok nt (.tup [(x.lft (s.inn c.m c.g)).1.av, I (x.lft (s.inn c.m c.g)).2]) tok nt) (tok : Nat → Bool) (nt : Nat) :
    DCall Tryz.prog 157 [spAv s, c.av] tok nt (.tup [(c.lft s).1.av, I (c.lft s).2]) tok nt := by
  intro box nb
  obtain ⟨fl, fr, fk, fi⟩ := hs.fit
  obtain ⟨fm, _, fg⟩ := hm.fit
  have s1 := sorted34_c s.i.nodes fi.n
  have s2 := sorted34_c s.i.edges fi.e
  have hi := imgP_vp hs.i
  have hC := ofP_c s.r c.g (imgP s.r s.i) c.m fr fg fm hi.emb.fit.1 hm hi
  have hL : c.lft s = lftStep 5 c.m c.g s (fun s => kidsE (fun x => Cd.lft x s) [x]) (fun s => kidsE (fun x => Cd.lft x s) [x]) := by rw [c.lft_eq, k5, hkx]
  have eI := imgP_sort hs.i
  rw [eI] at hC
  refine sB Tryz.func157 Tryz.ntmps157 ?_
  intro hbox htok
  simp only at hbox htok
  apply AL.start
  try (simp)
  repeat (refine sR ?_; simp)
  refine Stop.of_d (s1 _ _) ?_
  simp
  try (simp)
  repeat (refine sR ?_; simp)
  refine Stop.of_d (s2 _ _) ?_
  simp
  try (simp)
  repeat (refine sR ?_; simp)
  refine Stop.of_d (hC _ _) ?_
  simp
  rw [← eI]
  by_cases hd : s.dng c.m c.g = true
  · have e : cmpR s.r c.g (imgP s.r s.i) c.m = (⟨[], []⟩, 14) := if_pos hd
    rw [e, show c.lft s = (noC, 0) by rw [hL, lftStep, if_neg (by simp), if_pos hd]]
    have hn := no_c
    try (simp)
    repeat (refine sR ?_; simp)
    refine sC ?_
    simp
    try (simp)
    repeat (refine sR ?_; simp)
    refine Stop.of_d (hn _ _) ?_
    simp
    try (simp)
    repeat (refine sR ?_; simp)
    refine sT ?_
    try simp only [AU]
    refine ⟨by simp, sF hbox htok (fun _ h => h) (Nat.le_refl _) ?_⟩
    simp [packA]
  · have hd' : s.dng c.m c.g = false := by simpa using hd
    have e : cmpR s.r c.g (imgP s.r s.i) c.m = (s.z c.m c.g, 0) := if_neg hd
    rw [e]
    have ih := ih hd'
    have vz := Sp.z_vp hs hm hd'
    have hgo := Sp.go_emb hs hm hd'
    have hsub := Sp.go_sub hs hm
    have x1 := extractP_c c.g (s.z c.m c.g) fg vz.emb.fit.1 vz
    have x2 := extractP_c s.l s.k fl fk hs.k
    have vi := hs.i.vm
    have vm := hm.vm
    have p1 := picked_c c.m.nodes s.i.nodes fi.n (by rw [vm.ln]; exact vi.n)
    have p2 := picked_c c.m.edges s.i.edges fi.e (by rw [vm.le]; exact vi.e)
    have a1 := at_c (s.z c.m c.g).nodes (byK s.i.nodes c.m.nodes s.i.nodes.length) vz.emb.fit.1.n (by rw [byK_all]; exact fi.n)
    have a2 := at_c (s.z c.m c.g).edges (byK s.i.edges c.m.edges s.i.edges.length) vz.emb.fit.1.e (by rw [byK_all]; exact fi.e)
    have po := pushP_c (exG s.l s.k) s.l (s.rest c.m c.g) s.k (s.go c.m c.g) hs.k.emb hgo
    have ego : s.go c.m c.g = ⟨(byK s.i.nodes c.m.nodes s.i.nodes.length).map (indexI (s.z c.m c.g).nodes), (byK s.i.edges c.m.edges s.i.edges.length).map (indexI (s.z c.m c.g).edges)⟩ := rfl
    obtain ⟨P, hP⟩ : ∃ P, pushR s.l (s.rest c.m c.g) s.k (s.go c.m c.g) = P := ⟨_, rfl⟩
    rw [hP, ego] at po
    have erest : exG c.g (s.z c.m c.g) = s.rest c.m c.g := rfl
    rw [erest] at x1
    try (simp)
    repeat (refine sR ?_; simp)
    refine sC ?_
    simp
    try (simp)
    repeat (refine sR ?_; simp)
    refine Stop.of_d (x1 _ _) ?_
    simp
    try (simp)
    repeat (refine sR ?_; simp)
    refine sC ?_
    simp
    try (simp)
    repeat (refine sR ?_; simp)
    refine Stop.of_d (x2 _ _) ?_
    simp
    try (simp)
    repeat (refine sR ?_; simp)
    refine sC ?_
    simp
    try (simp)
    repeat (refine sR ?_; simp)
    refine Stop.of_d (p1 _ _) ?_
    simp
    try (simp)
    repeat (refine sR ?_; simp)
    refine Stop.of_d (a1 _ _) ?_
    simp
    try (simp)
    repeat (refine sR ?_; simp)
    refine Stop.of_d (p2 _ _) ?_
    simp
    try (simp)
    repeat (refine sR ?_; simp)
    refine Stop.of_d (a2 _ _) ?_
    simp
    try (simp)
    repeat (refine sR ?_; simp)
    refine Stop.of_d (po _ _) ?_
    simp
    by_cases hb : s.big c.m c.g
    · have e : P = (⟨⟨[], []⟩, ⟨[], []⟩, ⟨[], []⟩⟩, 3) := by rw [← hP]; exact if_pos hb
      rw [e, show c.lft s = (cdOf 0 [], 3) by rw [hL, lftStep, if_neg (by simp), if_neg (by simp [hd']), if_pos hb]]
      try (simp)
      repeat (refine sR ?_; simp)
      refine sC ?_
      simp
      try (simp)
      repeat (refine sR ?_; simp)
      refine sT ?_
      try simp only [AU]
      refine ⟨by simp, sF hbox htok (fun _ h => h) (Nat.le_refl _) ?_⟩
      simp [packA, cdOf, Cd.kind, Cd.kids, Cd.m, Cd.g, Cd.sl, Cd.vars, Cd.te, conds, ints, AM.edges, slots, tests]
    · have e : P = (s.po c.m c.g, 0) := by rw [← hP]; exact if_neg hb
      rw [e]
      have ih := ih hb
      obtain ⟨p1, p2, p3⟩ := Sp.po_emb hs hm hd' hb
      have v3 := p3.vm
      have f3 := p3.fit
      have s1 := sorted34_c (s.po c.m c.g).r.nodes f3.1.n
      have s2 := sorted34_c (s.po c.m c.g).r.edges f3.1.e
      have eJ := imgP_sort p3
      have hJ := imgP_vp p3
      have fJ := hJ.emb.fit.1
      have sJ := imgP_sub (y := (s.po c.m c.g).g) (q := (s.po c.m c.g).r)
      rw [eJ] at fJ sJ
      have b1 := backwards_c (sortI (s.po c.m c.g).r.nodes) (s.po c.m c.g).r.nodes (s.z c.m c.g).nodes fJ.n f3.1.n sJ.1 (by rw [v3.ln]; simp [Sp.rest, exG])
      have b2 := backwards_c (sortI (s.po c.m c.g).r.edges) (s.po c.m c.g).r.edges (s.z c.m c.g).edges fJ.e f3.1.e sJ.2 (by rw [v3.le]; simp [Sp.rest, exG])
      have eN : s.inn c.m c.g = ⟨(s.po c.m c.g).g, c.g, imgP (s.po c.m c.g).g (s.po c.m c.g).r, thenM (liftM (s.po c.m c.g).r (imgP (s.po c.m c.g).g (s.po c.m c.g).r)) (s.z c.m c.g)⟩ := rfl
      rw [eJ] at eN
      obtain ⟨R, hR⟩ : ∃ R, x.lft (s.inn c.m c.g) = R := ⟨_, rfl⟩
      rw [hR] at ih
      rw [eN] at ih
      simp only [thenM, liftM, List.length_map] at ih
      try (simp)
      repeat (refine sR ?_; simp)
      refine sC ?_
      simp
      try (simp)
      repeat (refine sR ?_; simp)
      refine Stop.of_d (s1 _ _) ?_
      simp
      try (simp)
      repeat (refine sR ?_; simp)
      refine Stop.of_d (s2 _ _) ?_
      simp
      try (simp)
      repeat (refine sR ?_; simp)
      refine Stop.of_d (b1 _ _) ?_
      simp
      try (simp)
      repeat (refine sR ?_; simp)
      refine Stop.of_d (b2 _ _) ?_
      simp
      try (simp [hkx, Cd.cells_eq])
      repeat (refine sR ?_; simp [hkx, Cd.cells_eq])
      refine Stop.of_d (ih _ _) ?_
      simp
      try (simp)
      repeat (refine sR ?_; simp)
      by_cases h0 : R.2 = 0
      · rw [show c.lft s = (.mk 5 [R.1] (s.po c.m c.g).l (s.po c.m c.g).g [] 0 [], 0) by rw [hL, lftStep, if_neg (by simp), if_neg (by simp [hd']), if_neg hb]; have hk : kidsE (fun x => Cd.lft x (s.inn c.m c.g)) [x] = ([R.1], 0) := by { unfold kidsE; rw [hR, if_neg (by simp [h0])]; exact if_neg (by simp [kidsE]) }; rw [hk]; exact if_neg (by simp)]
        have hav : (Cd.mk 5 [R.1] (s.po c.m c.g).l (s.po c.m c.g).g [] 0 []).av = .agg [I 5, .d (.sl 9 [R.1.cells]), .d (ints (s.po c.m c.g).l.nodes), .d (ints (s.po c.m c.g).l.edges), .d (ints (s.po c.m c.g).g.nodes), .d (AM.edges (s.po c.m c.g).g.edges), .d (.sl 4 []), I 0, .d (.sl 5 [])] := rfl
        rw [R.1.cells_eq] at hav
        rw [hav]
        simp only [h0]
        refine sC ?_
        simp
        try (simp)
        repeat (refine sR ?_; simp)
        refine sT ?_
        try simp only [AU]
        refine ⟨by simp, sF hbox htok (fun _ h => h) (Nat.le_refl _) ?_⟩
        simp [packA]
      · rw [show c.lft s = (cdOf 0 [], R.2) by rw [hL, lftStep, if_neg (by simp), if_neg (by simp [hd']), if_neg hb]; have hk : kidsE (fun x => Cd.lft x (s.inn c.m c.g)) [x] = ([], R.2) := by { unfold kidsE; rw [hR]; exact if_pos h0 }; rw [hk]; exact if_pos h0]
        have b0 : (R.2 != 0) = true := by simp [h0]
        simp only [b0]
        refine sC ?_
        simp
        try (simp)
        repeat (refine sR ?_; simp)
        refine sT ?_
        try simp only [AU]
        refine ⟨by simp, sF hbox htok (fun _ h => h) (Nat.le_refl _) ?_⟩
        simp [packA, cdOf, Cd.kind, Cd.kids, Cd.m, Cd.g, Cd.sl, Cd.vars, Cd.te, conds, ints, AM.edges, slots, tests]
end Go.AM
namespace Go.AM
open Go Go.Proofs
def stLk (c : Cd) (s : Sp) (nb : Nat) (box : Nat → Option (List (List AV))) (x : Acc) : AState :=
  ⟨tl [(25, I x.i), (24, I c.kids.length), (23, .d (conds c.kids)), (6, .ptr (nb + 6) 0 0), (4, .ptr (nb + 4) 0 0), (2, .ptr (nb + 2) 0 0)],
    lb nb box [(6, [[I c.kind, .osl 9 (((c.kids.take x.i).map fun k => (k.lft s).1).map Cd.cells) x.own, nilS, nilS, nilS, nilS, nilS, z0i, nilS]]), (4, [[z0i, nilS, nilS, nilS, nilS, nilS, nilS, z0i, nilS]]),
      (2, [[.d (ints s.l.nodes), .d (AM.edges s.l.edges), .d (ints s.r.nodes), .d (AM.edges s.r.edges), .d (ints s.k.nodes), .d (ints s.k.edges), .d (ints s.i.nodes), .d (ints s.i.edges)]])], x.tok, x.nt⟩
set_option maxRecDepth 100000 in
theorem left_c : ∀ (n : Nat) (c : Cd), SizeOf.sizeOf c < n → c.Fit → ∀ s, SpOk s → c.ovr s.r = 0 → ∀ (tok : Nat → Bool) (nt : Nat), DCall Tryz.prog 93 [spAv s, c.av] tok nt (.tup [(c.lft s).1.av, I (c.lft s).2]) tok nt
  | 0, c, hn, _, _, _, _, _, _ => absurd hn (Nat.not_lt_zero _)
  | n + 1, c, hn, hf, s, hs, hv, tok, nt => by
    have ih := fun x (hx : x ∈ c.kids) => left_c n x (by have := Cd.kid_lt hx; omega) (hf.kid x hx)
    intro box nb
    have hkl := hf.kids
    obtain ⟨h0, h1, h2⟩ := Cd.ovr_zero hv
    by_cases k5 : c.kind = 5
    · obtain ⟨hm, x, hkx⟩ := ovr_ex hv k5
      have hi : c.inn s.r = c.g := if_pos k5
      rw [hi] at h2
      have he := exists_c c x hkx k5 s hs hm (fun hd hb => ih x (by rw [hkx]; simp) _ (Sp.inn_ok hs hm hd hb) (h2 x (by rw [hkx]; simp)))
      have b5 : (c.kind == 5) = true := by simp [k5]
      refine sB Tryz.func93 Tryz.ntmps93 ?_
      intro hbox htok
      simp only at hbox htok
      apply AL.start
      try (simp [b5])
      repeat (refine sR ?_; simp [b5])
      refine sC ?_
      simp
      try (simp)
      repeat (refine sR ?_; simp)
      refine Stop.of_d (he _ _) ?_
      simp
      try (simp)
      repeat (refine sR ?_; simp)
      refine sT ?_
      try simp only [AU]
      refine ⟨by simp, sF hbox htok (fun _ h => h) (Nat.le_refl _) ?_⟩
      simp [packA]
    · have hi : c.inn s.r = s.r := if_neg k5
      rw [hi] at h2
      have b5 : (c.kind == 5) = false := by simp [k5]
      have hL : c.lft s = (if (kidsE (fun x => Cd.lft x s) c.kids).2 ≠ 0 then (cdOf 0 [], (kidsE (fun x => Cd.lft x s) c.kids).2) else (cdOf c.kind (kidsE (fun x => Cd.lft x s) c.kids).1, 0)) := by rw [c.lft_eq]; exact if_pos k5
      refine sB Tryz.func93 Tryz.ntmps93 ?_
      intro hbox htok
      simp only at hbox htok
      apply AL.start
      try (simp [b5])
      repeat (refine sR ?_; simp [b5])
      refine sC ?_
      simp
      try (simp)
      repeat (refine sR ?_; simp)
      refine sN ?_
      have hkl2 := hkl
      rw [kidN_eq] at hkl2
      refine AL.loopT (stLk c s nb box) (fun x => x.i ≤ c.kids.length ∧ (∀ y ∈ c.kids.take x.i, (y.lft s).2 = 0) ∧ TK tok nt x.tok x.nt [x.own]) (fun x => c.kids.length - x.i) ⟨0, .full, tok, nt⟩ ⟨Nat.zero_le _, by simp, (TK.start htok).full⟩ (Weaks.mk (Nat.le_refl _) rfl (by simp [ToL, lk]) (by simp [BoxL, lk])) ?_
      rintro ⟨i, own, tok', nt'⟩ S ⟨hi, hok, htk⟩ hS
      simp only [stLk] at hS hi htk hok
      subst hS
      have hw := sW (i := i) (by omega)
      obtain ⟨K, hK⟩ : ∃ K, (c.kids.take i).map (fun k => (k.lft s).1) = K := ⟨_, rfl⟩
      have hKl : K.length ≤ i := by rw [← hK]; simp; omega
      rw [hK]
      try (simp)
      repeat (refine sR ?_; simp)
      refine sC ?_
      simp
      refine ⟨fun hlt => ?_, fun hge => ?_⟩
      · have hmem : c.kids[i] ∈ c.kids := List.getElem_mem hlt
        have ihx := ih _ hmem s hs (h2 _ hmem)
        have hstep : (c.kids.take (i + 1)).map (fun k => (k.lft s).1) = K ++ [(c.kids[i].lft s).1] := by rw [← hK, ← List.take_append_getElem hlt, List.map_append]; rfl
        have hall : (c.kids[i].lft s).2 = 0 → ∀ y ∈ c.kids.take (i + 1), (y.lft s).2 = 0 := fun h y hy => by
          rw [← List.take_append_getElem hlt] at hy
          rcases List.mem_append.1 hy with hy | hy
          · exact hok y hy
          · rw [List.mem_singleton.1 hy]; exact h
        have hbad := fun h => kidsE_at (f := fun x => Cd.lft x s) hlt hok h
        try (simp [hlt, Cd.cells_eq])
        repeat (refine sR ?_; simp [hlt, Cd.cells_eq])
        refine Stop.of_d (ihx _ _) ?_
        simp
        generalize c.kids[i].lft s = R at *
        try (simp)
        repeat (refine sR ?_; simp)
        by_cases e0 : R.2 = 0
        · simp only [e0]
          refine sC ?_
          simp
          try (simp)
          repeat (refine sR ?_; simp)
          refine ⟨⟨by omega, htk.live⟩, ?_⟩
          try (simp [hw])
          repeat (refine sR ?_; simp [hw])
          refine sE ?_
          exact ⟨⟨i + 1, _, _, _⟩, ⟨hlt, hall e0, htk.app⟩, by simp only; omega, Weaks.mk htk.app.le rfl (by simp [ToL, lk]) (by simp [BoxL, lk, hstep, Cd.cells_eq])⟩
        · have b0 : (R.2 != 0) = true := by simp [e0]
          rw [hL, hbad e0, if_pos e0]
          simp only [b0]
          refine sC ?_
          simp
          try (simp)
          repeat (refine sR ?_; simp)
          refine sT ?_
          try simp only [AU]
          refine ⟨by simp, sF hbox htok htk.old htk.le ?_⟩
          simp [packA, cdOf, Cd.kind, Cd.kids, Cd.m, Cd.g, Cd.sl, Cd.vars, Cd.te, conds, ints, AM.edges, slots, tests]
      · refine sX ?_
        simp only [AU, ↓reduceIte]
        have : i = c.kids.length := by omega
        subst this
        rw [List.take_length] at hok
        rw [List.take_length] at hK
        rw [hL, kidsE_of hok, if_neg (by simp), hK]
        have hav : (cdOf c.kind K).av = .agg [I c.kind, .d (conds K), .d (ints []), .d (ints []), .d (ints []), .d (AM.edges []), .d (slots []), I 0, .d (tests [])] := rfl
        rw [hav]
        try (simp)
        repeat (refine sR ?_; simp)
        refine sT ?_
        try simp only [AU]
        refine ⟨by simp, sF hbox htok htk.old htk.le ?_⟩
        simp [packA, ints, AM.edges, slots, tests]
end Go.AM
namespace Go.AM
open Go Go.Proofs
theorem light_c (a : Gr) (c : Cd) (hb : c.Big) (tok : Nat → Bool) (nt : Nat) : DCall Tryz.prog 13 [a.av, c.av] tok nt (B (lightB a c)) tok nt := by
  refine light9_c a c hb ?_ tok nt
  by_cases h1 : c.fits 45 90 = true
  · by_cases h2 : fewG a = true
    · exact .inr (.inr (.inr (validR_c a c (fewG_fit h2) (Cd.fits_fit (n := 45) (m := 90) (by decide) (by decide) _ c (Nat.lt_succ_self _) hb h1))))
    · exact .inr (.inr (.inl (by simpa using h2)))
  · exact .inr (.inl (by simpa using h1))
theorem lightB_fit {a : Gr} {c : Cd} (hb : c.Big) (h : lightB a c = true) : a.Fit ∧ c.Fit := by
  unfold lightB at h
  split at h
  · cases h
  · split at h
    · cases h
    · rename_i h2
      split at h
      · cases h
      · rename_i h3
        exact ⟨fewG_fit (by simpa using h3), Cd.fits_fit (n := 45) (m := 90) (by decide) (by decide) _ c (Nat.lt_succ_self _) hb (by simpa using h2)⟩
end Go.AM
namespace Go.AM
open Go Go.Proofs
def movR (s : Sp) (c : Cd) : Cd × Int := if validC s.r c ≠ 0 then (cdOf 0 [], validC s.r c) else if (c.lft s).2 ≠ 0 then (cdOf 0 [], (c.lft s).2) else if validC s.l (c.lft s).1 ≠ 0 then (cdOf 0 [], validC s.l (c.lft s).1) else ((c.lft s).1, 0)
def leftR (r : Ru) (c : Cd) : Cd × Int := if strR r ≠ 0 then (cdOf 0 [], strR r) else movR r.sp c
def rightR (r : Ru) (c : Cd) : Cd × Int := if strR r ≠ 0 then (cdOf 0 [], strR r) else movR r.sp.inv c
theorem validC_zero {a : Gr} {c : Cd} (h : validC a c = 0) : validG a = 0 ∧ c.ovr a = 0 := by
  unfold validC at h
  split at h
  · contradiction
  · split at h
    · contradiction
    · rename_i h1 h2
      exact ⟨Decidable.not_not.1 h1, Decidable.not_not.1 h2⟩
theorem zav : (cdOf 0 []).av = .agg [I 0, .d (.sl 9 []), .d (.sl 1 []), .d (.sl 1 []), .d (.sl 1 []), .d (.sl 3 []), .d (.sl 4 []), I 0, .d (.sl 5 [])] := rfl
set_option maxRecDepth 100000 in
theorem moved_c (s : Sp) (c : Cd) (hs : SpOk s) (hf : c.Fit) (tok : Nat → Bool) (nt : Nat) : DCall Tryz.prog 42 [spAv s, c.av] tok nt (.tup [(movR s c).1.av, I (movR s c).2]) tok nt := by
  intro box nb
  obtain ⟨fl, fr, fk, fi⟩ := hs.fit
  have h1 := validC_c s.r c fr hf
  have h2 := fun hv => left_c _ c (Nat.lt_succ_self _) hf s hs hv
  refine sB Tryz.func42 Tryz.ntmps42 ?_
  intro hbox htok
  simp only at hbox htok
  apply AL.start
  try (simp)
  repeat (refine sR ?_; simp)
  refine Stop.of_d (h1 _ _) ?_
  simp
  try (simp)
  repeat (refine sR ?_; simp)
  by_cases e1 : validC s.r c = 0
  · have hv := (validC_zero e1).2
    simp only [e1]
    refine sC ?_
    simp
    try (simp)
    repeat (refine sR ?_; simp)
    refine Stop.of_d (h2 hv _ _) ?_
    simp
    have hok := lft_ok _ c (Nat.lt_succ_self _) hf s hs hv
    obtain ⟨R, hR⟩ : ∃ R, c.lft s = R := ⟨_, rfl⟩
    rw [hR] at hok ⊢
    try (simp)
    repeat (refine sR ?_; simp)
    by_cases e2 : R.2 = 0
    · have h3 := validC_c s.l R.1 fl (hok e2).fit
      simp only [e2]
      refine sC ?_
      simp
      try (simp)
      repeat (refine sR ?_; simp)
      refine Stop.of_d (h3 _ _) ?_
      simp
      try (simp)
      repeat (refine sR ?_; simp)
      by_cases e3 : validC s.l R.1 = 0
      · rw [show movR s c = (R.1, 0) by rw [movR, if_neg (by simp [e1]), hR, if_neg (by simp [e2]), if_neg (by simp [e3])]]
        simp only [e3]
        refine sC ?_
        simp
        try (simp)
        repeat (refine sR ?_; simp)
        refine sT ?_
        try simp only [AU]
        refine ⟨by simp, sF hbox htok (fun _ h => h) (Nat.le_refl _) ?_⟩
        simp [packA]
      · rw [show movR s c = (cdOf 0 [], validC s.l R.1) by rw [movR, if_neg (by simp [e1]), hR, if_neg (by simp [e2]), if_pos e3], zav]
        have b3 : (validC s.l R.1 != 0) = true := by simp [e3]
        simp only [b3]
        refine sC ?_
        simp
        try (simp)
        repeat (refine sR ?_; simp)
        refine sT ?_
        try simp only [AU]
        refine ⟨by simp, sF hbox htok (fun _ h => h) (Nat.le_refl _) ?_⟩
        simp [packA]
    · rw [show movR s c = (cdOf 0 [], R.2) by rw [movR, if_neg (by simp [e1]), hR, if_pos e2], zav]
      have b2 : (R.2 != 0) = true := by simp [e2]
      simp only [b2]
      refine sC ?_
      simp
      try (simp)
      repeat (refine sR ?_; simp)
      refine sT ?_
      try simp only [AU]
      refine ⟨by simp, sF hbox htok (fun _ h => h) (Nat.le_refl _) ?_⟩
      simp [packA]
  · rw [show movR s c = (cdOf 0 [], validC s.r c) by rw [movR, if_pos e1], zav]
    have b1 : (validC s.r c != 0) = true := by simp [e1]
    simp only [b1]
    refine sC ?_
    simp
    try (simp)
    repeat (refine sR ?_; simp)
    refine sT ?_
    try simp only [AU]
    refine ⟨by simp, sF hbox htok (fun _ h => h) (Nat.le_refl _) ?_⟩
    simp [packA]
set_option maxRecDepth 100000 in
theorem leftP_c (r : Ru) (c : Cd) (hr : r.Fit) (hf : c.Fit) (tok : Nat → Bool) (nt : Nat) : DCall Tryz.prog 14 [r.av, c.av] tok nt (.tup [(leftR r c).1.av, I (leftR r c).2]) tok nt := by
  intro box nb
  have h1 := structural_c r hr
  have h2 := tof_c r
  have h3 := fun hs => moved_c r.sp c hs hf
  refine sB Tryz.func14 Tryz.ntmps14 ?_
  intro hbox htok
  simp only at hbox htok
  apply AL.start
  try (simp)
  repeat (refine sR ?_; simp)
  refine Stop.of_d (h1 _ _) ?_
  simp
  try (simp)
  repeat (refine sR ?_; simp)
  by_cases e1 : strR r = 0
  · have hs := (strR_zero e1).1
    rw [show leftR r c = movR r.sp c by rw [leftR, if_neg (by simp [e1])]]
    simp only [e1]
    refine sC ?_
    simp
    try (simp)
    repeat (refine sR ?_; simp)
    refine Stop.of_d (h2 _ _) ?_
    simp
    try (simp)
    repeat (refine sR ?_; simp)
    refine Stop.of_d (h3 hs _ _) ?_
    simp
    try (simp)
    repeat (refine sR ?_; simp)
    refine sT ?_
    try simp only [AU]
    refine ⟨by simp, sF hbox htok (fun _ h => h) (Nat.le_refl _) ?_⟩
    simp [packA]
  · rw [show leftR r c = (cdOf 0 [], strR r) by rw [leftR, if_pos e1], zav]
    have b1 : (strR r != 0) = true := by simp [e1]
    simp only [b1]
    refine sC ?_
    simp
    try (simp)
    repeat (refine sR ?_; simp)
    refine sT ?_
    try simp only [AU]
    refine ⟨by simp, sF hbox htok (fun _ h => h) (Nat.le_refl _) ?_⟩
    simp [packA]
theorem inverse_c (s : Sp) (hs : SpOk s) (tok : Nat → Bool) (nt : Nat) : DCall Tryz.prog 68 [spAv s] tok nt (spAv s.inv) tok nt := by
  intro box nb
  obtain ⟨fl, fr, fk, fi⟩ := hs.fit
  have s1 := sorted34_c s.i.nodes fi.n
  have s2 := sorted34_c s.i.edges fi.e
  have eJ := imgP_sort hs.i
  have hJ := imgP_vp hs.i
  have fJ := hJ.emb.fit.1
  have sJ := imgP_sub (y := s.r) (q := s.i)
  rw [eJ] at fJ sJ
  have vi := hs.i.vm
  have b1 := backwards_c (sortI s.i.nodes) s.i.nodes s.k.nodes fJ.n fi.n sJ.1 (by rw [vi.ln]; simp [exG])
  have b2 := backwards_c (sortI s.i.edges) s.i.edges s.k.edges fJ.e fi.e sJ.2 (by rw [vi.le]; simp [exG])
  have eN : s.inv = ⟨s.r, s.l, imgP s.r s.i, thenM (liftM s.i (imgP s.r s.i)) s.k⟩ := rfl
  rw [eJ] at eN
  simp only [thenM, liftM, List.length_map] at eN
  rw [eN]
  refine sB Tryz.func68 Tryz.ntmps68 ?_
  intro hbox htok
  simp only at hbox htok
  apply AL.start
  try (simp)
  repeat (refine sR ?_; simp)
  refine Stop.of_d (s1 _ _) ?_
  simp
  try (simp)
  repeat (refine sR ?_; simp)
  refine Stop.of_d (s2 _ _) ?_
  simp
  try (simp)
  repeat (refine sR ?_; simp)
  refine Stop.of_d (b1 _ _) ?_
  simp
  try (simp)
  repeat (refine sR ?_; simp)
  refine Stop.of_d (b2 _ _) ?_
  simp
  try (simp)
  repeat (refine sR ?_; simp)
  refine sT ?_
  try simp only [AU]
  refine ⟨by simp, sF hbox htok (fun _ h => h) (Nat.le_refl _) ?_⟩
  simp [packA]
set_option maxRecDepth 100000 in
theorem rightP_c (r : Ru) (c : Cd) (hr : r.Fit) (hf : c.Fit) (tok : Nat → Bool) (nt : Nat) : DCall Tryz.prog 21 [r.av, c.av] tok nt (.tup [(rightR r c).1.av, I (rightR r c).2]) tok nt := by
  intro box nb
  have h1 := structural_c r hr
  have h2 := tof_c r
  have h4 := inverse_c r.sp
  have h3 := fun hs => moved_c r.sp.inv c hs hf
  refine sB Tryz.func21 Tryz.ntmps21 ?_
  intro hbox htok
  simp only at hbox htok
  apply AL.start
  try (simp)
  repeat (refine sR ?_; simp)
  refine Stop.of_d (h1 _ _) ?_
  simp
  try (simp)
  repeat (refine sR ?_; simp)
  by_cases e1 : strR r = 0
  · have hs := (strR_zero e1).1
    rw [show rightR r c = movR r.sp.inv c by rw [rightR, if_neg (by simp [e1])]]
    simp only [e1]
    refine sC ?_
    simp
    try (simp)
    repeat (refine sR ?_; simp)
    refine Stop.of_d (h2 _ _) ?_
    simp
    try (simp)
    repeat (refine sR ?_; simp)
    refine Stop.of_d (h4 hs _ _) ?_
    simp
    try (simp)
    repeat (refine sR ?_; simp)
    refine Stop.of_d (h3 (Sp.inv_ok hs) _ _) ?_
    simp
    try (simp)
    repeat (refine sR ?_; simp)
    refine sT ?_
    try simp only [AU]
    refine ⟨by simp, sF hbox htok (fun _ h => h) (Nat.le_refl _) ?_⟩
    simp [packA]
  · rw [show rightR r c = (cdOf 0 [], strR r) by rw [rightR, if_pos e1], zav]
    have b1 : (strR r != 0) = true := by simp [e1]
    simp only [b1]
    refine sC ?_
    simp
    try (simp)
    repeat (refine sR ?_; simp)
    refine sT ?_
    try simp only [AU]
    refine ⟨by simp, sF hbox htok (fun _ h => h) (Nat.le_refl _) ?_⟩
    simp [packA]
end Go.AM
namespace Go.AM
open Go Go.Proofs
theorem ascL_succ (l : List Int) (n : Nat) : ascL l (n + 1) = if (n : Int) ∈ l then ascL l n ++ [(n : Int)] else ascL l n := by
  unfold ascL
  rw [List.range_succ, List.filter_append, List.map_append]
  by_cases h : (n : Int) ∈ l <;> simp [h]
theorem ascL_zero (l : List Int) : ascL l 0 = [] := rfl
theorem ascL_len {l : List Int} (hn : l.Nodup) (n : Nat) : (ascL l n).length ≤ l.length :=
  nodup_le (ascL l n) l (nodup_of_lt (pw_getD (ascL_pw l n))) fun x hx => (ascL_mem.1 hx).1
theorem ascL_full {l : List Int} {N n : Nat} (hn : l.Nodup) (hr : ∀ x ∈ l, 0 ≤ x ∧ x < N) (h : l.length ≤ (ascL l n).length) : ascL l n = ascL l N := by
  have hd := nodup_of_lt (pw_getD (ascL_pw l n))
  have key : ∀ x ∈ l, x ∈ ascL l n := fun x hx => Classical.byContradiction fun hx2 => by
    have := nodup_le (x :: ascL l n) l (List.nodup_cons.2 ⟨hx2, hd⟩) fun y hy => by
      rcases List.mem_cons.1 hy with rfl | hy
      · exact hx
      · exact (ascL_mem.1 hy).1
    simp only [List.length_cons] at this
    omega
  refine pw_ext (ascL_pw _ _) (ascL_pw _ _) fun x => ⟨fun hx => ?_, fun hx => key x (ascL_mem.1 hx).1⟩
  have := (ascL_mem.1 hx).1
  exact ascL_mem.2 ⟨this, hr x this⟩
theorem ascL_more {l : List Int} {N n : Nat} (hn : l.Nodup) (hr : ∀ x ∈ l, 0 ≤ x ∧ x < N) (h : (ascL l n).length < l.length) : n < N := Classical.byContradiction fun h2 => by
  have e : ∀ x ∈ l, x ∈ ascL l n := fun x hx => ascL_mem.2 ⟨hx, by have := hr x hx; omega⟩
  have := nodup_le l (ascL l n) hn e
  omega
theorem not_take {l : List Int} (hn : l.Nodup) {k : Nat} (h : k < l.length) : l[k] ∉ l.take k := fun hm => by
  obtain ⟨j, hj, e⟩ := List.getElem_of_mem hm
  rw [List.getElem_take] at e
  have hj' : j < k := by simp at hj; omega
  have := List.pairwise_iff_getElem.1 hn j k (by omega) h hj'
  exact this e
def stAc (l : List Int) (nb : Nat) (box : Nat → Option (List (List AV))) (x : Acc) : AState := ⟨tl [(0, .d (ints l)), (3, .osl 1 (rI (ascL l x.i)) x.own), (4, I x.i)], lb nb box [], x.tok, x.nt⟩
def stAc2 (l : List Int) (n : Nat) (nb : Nat) (box : Nat → Option (List (List AV))) (x : Acc) : AState := ⟨tl [(0, .d (ints l)), (3, .osl 1 (rI (ascL l n ++ if (n : Int) ∈ l.take x.i then [(n : Int)] else [])) x.own), (4, I n), (5, I x.i)], lb nb box [], x.tok, x.nt⟩
theorem ascending34_c (l : List Int) (N : Nat) (hl : l.length ≤ 1000000) (hN : N ≤ 1000000) (hn : l.Nodup) (hr : ∀ x ∈ l, 0 ≤ x ∧ x < N) (tok : Nat → Bool) (nt : Nat) : DCall Tryz.prog 94 [.d (ints l)] tok nt (.d (ints (ascL l N))) tok nt := by
  intro box nb
  refine sB Tryz.func94 Tryz.ntmps94 ?_
  intro hbox htok
  simp only at hbox htok
  apply AL.start
  try (simp)
  repeat (refine sR ?_; simp)
  refine sN ?_
  refine AL.loopT (stAc l nb box) (fun x => x.i ≤ N ∧ TK tok nt x.tok x.nt [x.own]) (fun x => N - x.i) ⟨0, .full, tok, nt⟩ ⟨Nat.zero_le _, (TK.start htok).full⟩ (Weaks.mk (Nat.le_refl _) rfl (by simp [ToL, lk, ascL_zero]) trivial) ?_
  rintro ⟨i, own, tok', nt'⟩ S ⟨hi, htk⟩ hS
  simp only [stAc] at hS hi htk
  subst hS
  have hw := sW (i := i) (by omega)
  have hlen := ascL_len hn i
  have hsc := ascL_succ l i
  have hful := ascL_full (n := i) hn hr
  have hmor := ascL_more (n := i) hn hr
  try (simp)
  repeat (refine sR ?_; simp)
  refine sC ?_
  simp
  refine ⟨fun hlt => ?_, fun hge => ?_⟩
  · have hiN := hmor (by omega)
    have hacc : ∀ k, ((ascL l i ++ if (i : Int) ∈ l.take k then [(i : Int)] else [] : List Int)).length ≤ 1000001 := fun k => by
      rw [List.length_append]
      split <;> simp <;> omega
    try (simp)
    repeat (refine sR ?_; simp)
    refine sN ?_
    refine AL.loopT (stAc2 l i nb box) (fun x => x.i ≤ l.length ∧ TK tok nt x.tok x.nt [x.own]) (fun x => l.length - x.i) ⟨0, own, tok', nt'⟩ ⟨Nat.zero_le _, htk⟩ (Weaks.mk htk.le rfl (by simp [ToL, lk]) trivial) ?_
    rintro ⟨k, own2, tok2, nt2⟩ S ⟨hk, htk2⟩ hS
    simp only [stAc2] at hS hk htk2
    subst hS
    have hwk := sW (i := k) (by omega)
    have hak := hacc k
    obtain ⟨R, hR⟩ : ∃ R, (ascL l i ++ if (i : Int) ∈ l.take k then [(i : Int)] else [] : List Int) = R := ⟨_, rfl⟩
    rw [hR] at hak ⊢
    try (simp)
    repeat (refine sR ?_; simp)
    refine sC ?_
    simp
    refine ⟨fun hlk => ?_, fun hge => ?_⟩
    · have hmem : ∀ x : Int, x ∈ l.take (k + 1) ↔ x ∈ l.take k ∨ x = l[k] := fun x => by rw [← List.take_append_getElem hlk, List.mem_append, List.mem_singleton]
      have hnot : l[k] ∉ l.take k := not_take hn hlk
      by_cases e : l[k] = (i : Int)
      · have b : (l[k] == (i : Int)) = true := by simp [e]
        have hR2 : (ascL l i ++ if (i : Int) ∈ l.take (k + 1) then [(i : Int)] else [] : List Int) = R ++ [(i : Int)] := by
          rw [← hR, if_pos ((hmem _).2 (.inr e.symm)), if_neg (by rw [← e]; exact hnot), List.append_nil]
        try (simp [hlk, b])
        repeat (refine sR ?_; simp [hlk, b])
        refine sC ?_
        simp
        try (simp)
        repeat (refine sR ?_; simp)
        refine ⟨⟨by omega, htk2.live⟩, ?_⟩
        try (simp [hwk])
        repeat (refine sR ?_; simp [hwk])
        refine sE ?_
        exact ⟨⟨k + 1, _, _, _⟩, ⟨hlk, htk2.app⟩, by simp only; omega, Weaks.mk htk2.app.le rfl (by simp only [hR2]; simp [ToL, lk]) trivial⟩
      · have b : (l[k] == (i : Int)) = false := by simp [e]
        have hR2 : (ascL l i ++ if (i : Int) ∈ l.take (k + 1) then [(i : Int)] else [] : List Int) = R := by
          rw [← hR]
          congr 2
          rw [hmem, eq_iff_iff]
          exact ⟨fun h => h.resolve_right fun h => e h.symm, .inl⟩
        try (simp [hlk, b])
        repeat (refine sR ?_; simp [hlk, b])
        refine sC ?_
        simp
        try (simp [hwk])
        repeat (refine sR ?_; simp [hwk])
        refine sE ?_
        exact ⟨⟨k + 1, own2, tok2, nt2⟩, ⟨hlk, htk2⟩, by simp only; omega, Weaks.mk htk2.le rfl (by simp only [hR2]; simp [ToL, lk]) trivial⟩
    · refine sX ?_
      simp only [AU, ↓reduceIte]
      have : k = l.length := by omega
      subst this
      rw [List.take_length] at hR
      have hR2 : ascL l (i + 1) = R := by
        rw [hsc, ← hR]
        split <;> simp
      try (simp [hw])
      repeat (refine sR ?_; simp [hw])
      refine sE ?_
      exact ⟨⟨i + 1, own2, tok2, nt2⟩, ⟨hiN, htk2⟩, by simp only; omega, Weaks.mk htk2.le rfl (by simp only [hR2]; simp [ToL, lk]) trivial⟩
  · have hful := hful (by omega)
    refine sX ?_
    simp only [AU, ↓reduceIte]
    try (simp)
    repeat (refine sR ?_; simp)
    refine sT ?_
    try simp only [AU]
    refine ⟨by simp, sF hbox htok htk.old htk.le ?_⟩
    simp [packA, hful]
def stLe (places from' to' : List Int) (nb : Nat) (box : Nat → Option (List (List AV))) (x : Acc) : AState := ⟨tl [(0, .d (ints places)), (1, .d (ints from')), (2, .d (ints to')), (7, .osl 1 (rI (byK (places.map (indexI from')) to' x.i)) x.own), (8, I x.i)], lb nb box [], x.tok, x.nt⟩
def stLe2 (places from' to' Q : List Int) (i : Nat) (p : Int) (nb : Nat) (box : Nat → Option (List (List AV))) (x : Acc) : AState :=
  ⟨tl [(0, .d (ints places)), (1, .d (ints from')), (2, .d (ints to')), (7, .osl 1 (rI (Q ++ if p ∈ from'.take x.i then [to'.getD (indexI from' p).toNat 0] else [])) x.own), (8, I i), (9, I x.i)], lb nb box [], x.tok, x.nt⟩
theorem led34_c (places from' to' : List Int) (h1 : places.length ≤ 1000000) (h2 : from'.length ≤ 1000000) (hn : from'.Nodup) (hs : ∀ x ∈ places, x ∈ from') (hk : from'.length ≤ to'.length) (tok : Nat → Bool) (nt : Nat) :
    DCall Tryz.prog 166 [.d (ints places), .d (ints from'), .d (ints to')] tok nt (.d (ints (byK (places.map (indexI from')) to' (places.map (indexI from')).length))) tok nt := by
  intro box nb
  have hlenP : ∀ i, (byK (places.map (indexI from')) to' i).length ≤ i := fun i => by simp [byK]; omega
  refine sB Tryz.func166 Tryz.ntmps166 ?_
  intro hbox htok
  simp only at hbox htok
  apply AL.start
  try (simp)
  repeat (refine sR ?_; simp)
  refine sN ?_
  refine AL.loopT (stLe places from' to' nb box) (fun x => x.i ≤ places.length ∧ TK tok nt x.tok x.nt [x.own]) (fun x => places.length - x.i) ⟨0, .full, tok, nt⟩ ⟨Nat.zero_le _, (TK.start htok).full⟩ (Weaks.mk (Nat.le_refl _) rfl (by simp [ToL, lk, byK_zero]) trivial) ?_
  rintro ⟨i, own, tok', nt'⟩ S ⟨hi, htk⟩ hS
  simp only [stLe] at hS hi htk
  subst hS
  have hw := sW (i := i) (by omega)
  have hlen := hlenP i
  obtain ⟨Q, hQ⟩ : ∃ Q, byK (places.map (indexI from')) to' i = Q := ⟨_, rfl⟩
  rw [hQ] at hlen ⊢
  try (simp)
  repeat (refine sR ?_; simp)
  refine sC ?_
  simp
  refine ⟨fun hlt => ?_, fun hge => ?_⟩
  · have hsc := byK_succ (places.map (indexI from')) to' (i := i) (by simpa using hlt)
    rw [List.getElem_map, hQ] at hsc
    obtain ⟨x0, x1⟩ := mem_indexI hs i hlt
    have hix := (indexI_in (hs _ (List.getElem_mem hlt))).2.2
    try (simp)
    repeat (refine sR ?_; simp)
    refine sN ?_
    refine AL.loopT (stLe2 places from' to' Q i places[i] nb box) (fun x => x.i ≤ from'.length ∧ TK tok nt x.tok x.nt [x.own]) (fun x => from'.length - x.i) ⟨0, own, tok', nt'⟩ ⟨Nat.zero_le _, htk⟩ (Weaks.mk htk.le rfl (by simp [ToL, lk]) trivial) ?_
    rintro ⟨k, own2, tok2, nt2⟩ S ⟨hk2, htk2⟩ hS
    simp only [stLe2] at hS hk2 htk2
    subst hS
    have hwk := sW (i := k) (by omega)
    obtain ⟨R, hR⟩ : ∃ R, (Q ++ if places[i] ∈ from'.take k then [to'.getD (indexI from' places[i]).toNat 0] else [] : List Int) = R := ⟨_, rfl⟩
    have hak : R.length ≤ 1000001 := by
      rw [← hR, List.length_append]
      split <;> simp <;> omega
    rw [hR]
    try (simp)
    repeat (refine sR ?_; simp)
    refine sC ?_
    simp
    refine ⟨fun hlk => ?_, fun hge => ?_⟩
    · have hmem : ∀ x : Int, x ∈ from'.take (k + 1) ↔ x ∈ from'.take k ∨ x = from'[k] := fun x => by rw [← List.take_append_getElem hlk, List.mem_append, List.mem_singleton]
      have hnot : from'[k] ∉ from'.take k := not_take hn hlk
      by_cases e : from'[k] = places[i]
      · have b : (from'[k] == places[i]) = true := by simp [e]
        have hidx : (indexI from' places[i]).toNat = k := by
          have := indexI_gd hn hlk
          have g : from'.getD k 0 = from'[k] := by simp [hlk]
          rw [g, e] at this
          omega
        have hkt : k < to'.length := by omega
        have hR2 : (Q ++ if places[i] ∈ from'.take (k + 1) then [to'.getD (indexI from' places[i]).toNat 0] else [] : List Int) = R ++ [to'[k]] := by
          rw [← hR, if_pos ((hmem _).2 (.inr e.symm)), if_neg (by rw [← e]; exact hnot), List.append_nil, hidx]
          simp [hkt]
        try (simp [hlt, hlk, b])
        repeat (refine sR ?_; simp [hlt, hlk, b])
        refine sC ?_
        simp
        try (simp [hkt])
        repeat (refine sR ?_; simp [hkt])
        refine ⟨⟨by omega, htk2.live⟩, ?_⟩
        try (simp [hwk])
        repeat (refine sR ?_; simp [hwk])
        refine sE ?_
        exact ⟨⟨k + 1, _, _, _⟩, ⟨hlk, htk2.app⟩, by simp only; omega, Weaks.mk htk2.app.le rfl (by simp only [hR2]; simp [ToL, lk]) trivial⟩
      · have b : (from'[k] == places[i]) = false := by simp [e]
        have hR2 : (Q ++ if places[i] ∈ from'.take (k + 1) then [to'.getD (indexI from' places[i]).toNat 0] else [] : List Int) = R := by
          rw [← hR]
          congr 2
          rw [hmem, eq_iff_iff]
          exact ⟨fun h => h.resolve_right fun h => e h.symm, .inl⟩
        try (simp [hlt, hlk, b])
        repeat (refine sR ?_; simp [hlt, hlk, b])
        refine sC ?_
        simp
        try (simp [hwk])
        repeat (refine sR ?_; simp [hwk])
        refine sE ?_
        exact ⟨⟨k + 1, own2, tok2, nt2⟩, ⟨hlk, htk2⟩, by simp only; omega, Weaks.mk htk2.le rfl (by simp only [hR2]; simp [ToL, lk]) trivial⟩
    · refine sX ?_
      simp only [AU, ↓reduceIte]
      have : k = from'.length := by omega
      subst this
      rw [List.take_length, if_pos (hs _ (List.getElem_mem hlt))] at hR
      rw [hR] at hsc
      try (simp [hw])
      repeat (refine sR ?_; simp [hw])
      refine sE ?_
      exact ⟨⟨i + 1, own2, tok2, nt2⟩, ⟨hlt, htk2⟩, by simp only; omega, Weaks.mk htk2.le rfl (by simp only [hsc]; simp [ToL, lk]) trivial⟩
  · refine sX ?_
    simp only [AU, ↓reduceIte]
    have : i = places.length := by omega
    subst this
    try (simp)
    repeat (refine sR ?_; simp)
    refine sT ?_
    try simp only [AU]
    refine ⟨by simp, sF hbox htok htk.old htk.le ?_⟩
    simp [packA, ← hQ]
theorem false34_c (tok : Nat → Bool) (nt : Nat) : DCall Tryz.prog 96 [] tok nt noC.av tok nt := by
  intro box nb
  have h := true33_c
  refine sB Tryz.func96 Tryz.ntmps96 ?_
  intro hbox htok
  simp only at hbox htok
  apply AL.start
  try (simp)
  repeat (refine sR ?_; simp)
  refine Stop.of_d (h _ _) ?_
  simp
  try (simp)
  repeat (refine sR ?_; simp)
  refine sT ?_
  try simp only [AU]
  refine ⟨by simp, sF hbox htok (fun _ h => h) (Nat.le_refl _) ?_⟩
  simp [packA, noC, Cd.cells, Cd.rows, trueC, cdOf, Cd.kind, Cd.kids, Cd.m, Cd.g, Cd.sl, Cd.vars, Cd.te, conds, ints, AM.edges, slots, tests]
def Sp.ru (s : Sp) : Ru := ⟨⟨#[]⟩, s.l, [], 0, [], s.r, [], 0, [], s.k, s.i, true, cdOf 0 []⟩
theorem of34_c (l r : Gr) (k i : Mo) (tok : Nat → Bool) (nt : Nat) : DCall Tryz.prog 139 [l.av, r.av, k.av, i.av] tok nt (Sp.ru ⟨l, r, k, i⟩).av tok nt := by
  intro box nb
  refine sB Tryz.func139 Tryz.ntmps139 ?_
  intro hbox htok
  simp only at hbox htok
  apply AL.start
  try (simp)
  repeat (refine sR ?_; simp)
  refine sT ?_
  try simp only [AU]
  refine ⟨by simp, sF hbox htok (fun _ h => h) (Nat.le_refl _) ?_⟩
  simp [packA, Sp.ru, cdOf, Cd.kind, Cd.kids, Cd.m, Cd.g, Cd.sl, Cd.vars, Cd.te, conds, ints, AM.edges, slots, tests]
end Go.AM
namespace Go.AM
open Go Go.Proofs
set_option maxRecDepth 100000 in
theorem kept34_c (c l r : Gr) (z k : Mo) (hk : Emb c l k) (h1 : k.nodes.length ≤ z.nodes.length) (h2 : k.edges.length ≤ z.edges.length) (tok : Nat → Bool) (nt : Nat) :
    DCall Tryz.prog 98 [l.av, r.av, z.av, k.av] tok nt (Sp.ru ⟨l, r, imgP l k, thenM (liftM k (imgP l k)) z⟩).av tok nt := by
  intro box nb
  obtain ⟨fk, _, fl⟩ := hk.fit
  have v := hk.vm
  have hg := (validG_types v.vb).1
  have a1 := ascending34_c k.nodes l.nodes.length fk.n (by omega) hk.n v.n
  have a2 := ascending34_c k.edges l.edges.length fk.e (by omega) hk.e v.e
  have hJ := imgP_vp hk
  have fJ := hJ.emb.fit.1
  have sJ := imgP_sub (y := l) (q := k)
  have l1 := led34_c (imgP l k).nodes k.nodes z.nodes fJ.n fk.n hk.n sJ.1 h1
  have l2 := led34_c (imgP l k).edges k.edges z.edges fJ.e fk.e hk.e sJ.2 h2
  have e1 : ascL k.nodes l.nodes.length = (imgP l k).nodes := rfl
  have e2 : ascL k.edges l.edges.length = (imgP l k).edges := rfl
  rw [e1] at a1
  rw [e2] at a2
  have eT : thenM (liftM k (imgP l k)) z = ⟨byK ((imgP l k).nodes.map (indexI k.nodes)) z.nodes ((imgP l k).nodes.map (indexI k.nodes)).length, byK ((imgP l k).edges.map (indexI k.edges)) z.edges ((imgP l k).edges.map (indexI k.edges)).length⟩ := rfl
  rw [eT]
  generalize byK ((imgP l k).nodes.map (indexI k.nodes)) z.nodes ((imgP l k).nodes.map (indexI k.nodes)).length = t1 at *
  generalize byK ((imgP l k).edges.map (indexI k.edges)) z.edges ((imgP l k).edges.map (indexI k.edges)).length = t2 at *
  have o := of34_c l r (imgP l k) ⟨t1, t2⟩
  generalize imgP l k = q at *
  refine sB Tryz.func98 Tryz.ntmps98 ?_
  intro hbox htok
  simp only at hbox htok
  apply AL.start
  try (simp)
  repeat (refine sR ?_; simp)
  refine Stop.of_d (a1 _ _) ?_
  simp
  try (simp)
  repeat (refine sR ?_; simp)
  refine Stop.of_d (a2 _ _) ?_
  simp
  try (simp)
  repeat (refine sR ?_; simp)
  refine Stop.of_d (l1 _ _) ?_
  simp
  try (simp)
  repeat (refine sR ?_; simp)
  refine Stop.of_d (l2 _ _) ?_
  simp
  try (simp)
  repeat (refine sR ?_; simp)
  refine Stop.of_d (o _ _) ?_
  simp
  try (simp)
  repeat (refine sR ?_; simp)
  refine sT ?_
  try simp only [AU]
  refine ⟨by simp, sF hbox htok (fun _ h => h) (Nat.le_refl _) ?_⟩
  simp [packA]
set_option maxRecDepth 100000 in
theorem inverse34_c (r : Ru) (h : SpOk r.sp) (tok : Nat → Bool) (nt : Nat) : DCall Tryz.prog 69 [r.av] tok nt r.sp.inv.ru.av tok nt := by
  intro box nb
  have v := h.i.vm
  have k := kept34_c (exG r.lg r.k) r.rg r.lg r.k r.i h.i (by have := v.ln; simp [exG, Ru.sp] at this; omega) (by have := v.le; simp [exG, Ru.sp] at this; omega)
  have e : r.sp.inv = ⟨r.rg, r.lg, imgP r.rg r.i, thenM (liftM r.i (imgP r.rg r.i)) r.k⟩ := rfl
  rw [← e] at k
  refine sB Tryz.func69 Tryz.ntmps69 ?_
  intro hbox htok
  simp only at hbox htok
  apply AL.start
  try (simp)
  repeat (refine sR ?_; simp)
  refine Stop.of_d (k _ _) ?_
  simp
  try (simp)
  repeat (refine sR ?_; simp)
  refine sT ?_
  try simp only [AU]
  refine ⟨by simp, sF hbox htok (fun _ h => h) (Nat.le_refl _) ?_⟩
  simp [packA]
set_option maxRecDepth 100000 in
theorem structural34_c (r : Ru) (hr : r.Fit) (tok : Nat → Bool) (nt : Nat) : DCall Tryz.prog 18 [r.av] tok nt (I (strR r)) tok nt := by
  intro box nb
  have h1 := valid05_c r.lg hr.lg
  have h2 := valid05_c r.rg hr.rg
  have h3 := valid07_c r.lg r.k hr.lg hr.k
  have h4 := fun h => extract07_c r.lg r.k hr.lg hr.k h
  have h5 := fun h => valid53_c (exG r.lg r.k) r.rg r.i h hr.rg
  have h6 := fun h => injective26_c (exG r.lg r.k) r.rg r.i h hr.rg hr.i
  have hls := hr.ls
  have hlt := hr.lt
  have hrs := hr.rs
  have hrt := hr.rt
  rw [bigN_eq] at hls hlt hrs hrt
  refine sB Tryz.func18 Tryz.ntmps18 ?_
  intro hbox htok
  simp only at hbox htok
  apply AL.start
  try (simp)
  repeat (refine sR ?_; simp)
  refine Stop.of_d (h1 _ _) ?_
  simp
  try (simp)
  repeat (refine sR ?_; simp)
  by_cases e1 : validG r.lg = 0
  · simp only [e1]
    refine sC ?_
    simp
    try (simp)
    repeat (refine sR ?_; simp)
    refine Stop.of_d (h2 _ _) ?_
    simp
    try (simp)
    repeat (refine sR ?_; simp)
    by_cases e2 : validG r.rg = 0
    · simp only [e2]
      refine sC ?_
      simp
      try (simp)
      repeat (refine sR ?_; simp)
      refine Stop.of_d (h3 _ _) ?_
      simp
      try (simp)
      repeat (refine sR ?_; simp)
      by_cases e3 : validP r.lg r.k = 0
      · simp only [e3]
        refine sC ?_
        simp
        try (simp)
        repeat (refine sR ?_; simp)
        have hp := VP.of e3
        have hx := hp.emb.fit.2.1
        refine Stop.of_d (h4 hp _ _) ?_
        simp
        try (simp)
        repeat (refine sR ?_; simp)
        refine Stop.of_d (h5 hx _ _) ?_
        simp
        try (simp)
        repeat (refine sR ?_; simp)
        by_cases e4 : validM (exG r.lg r.k) r.rg r.i = 0
        · simp only [e4]
          refine sC ?_
          simp
          try (simp)
          repeat (refine sR ?_; simp)
          refine Stop.of_d (h6 hx _ _) ?_
          simp
          try (simp)
          repeat (refine sR ?_; simp)
          cases e5 : injM (exG r.lg r.k) r.rg r.i
          · refine sC ?_
            simp
            try (simp)
            repeat (refine sR ?_; simp)
            refine sT ?_
            try simp only [AU]
            refine ⟨by simp, sF hbox htok (fun _ h => h) (Nat.le_refl _) ?_⟩
            simp [packA, strR, e1, e2, e3, e4, e5]
          · refine sC ?_
            simp
            have w0 : IntKind.i64.wrap ((r.lsl.length : Int) + r.lte.length) = (r.lsl.length : Int) + r.lte.length := wrap_in (by omega) (by omega)
            have w1 : IntKind.i64.wrap ((r.lsl.length : Int) + r.lte.length + r.rsl.length) = (r.lsl.length : Int) + r.lte.length + r.rsl.length := wrap_in (by omega) (by omega)
            have w2 : IntKind.i64.wrap ((r.lsl.length : Int) + r.lte.length + r.rsl.length + r.rte.length) = (r.lsl.length : Int) + r.lte.length + r.rsl.length + r.rte.length := wrap_in (by omega) (by omega)
            by_cases s1 : ((r.lsl.length : Int) + r.lte.length + r.rsl.length + r.rte.length) = 0
            · have b1 : (((r.lsl.length : Int) + r.lte.length + r.rsl.length + r.rte.length) == 0) = true := by rw [beq_iff_eq]; exact s1
              by_cases s2 : r.lv = 0
              · have b2 : (r.lv == 0) = true := by simp [s2]
                by_cases s3 : r.rv = 0
                · have b3 : (r.rv == 0) = true := by simp [s3]
                  have y1 : r.plainL := ⟨by omega, s2⟩
                  have y2 : r.plainR := ⟨by omega, s3⟩
                  cases hin : r.inj
                  · try (simp [w0, w1, w2, b1, b2, b3, hin])
                    repeat (refine sR ?_; simp [w0, w1, w2, b1, b2, b3, hin])
                    refine sC ?_
                    simp
                    try (simp)
                    repeat (refine sR ?_; simp)
                    refine sT ?_
                    try simp only [AU]
                    refine ⟨by simp, sF hbox htok (fun _ h => h) (Nat.le_refl _) ?_⟩
                    simp [packA, strR, e1, e2, e3, e4, e5, y1, y2, hin]
                  · try (simp [w0, w1, w2, b1, b2, b3, hin])
                    repeat (refine sR ?_; simp [w0, w1, w2, b1, b2, b3, hin])
                    refine sC ?_
                    simp
                    try (simp)
                    repeat (refine sR ?_; simp)
                    refine sT ?_
                    try simp only [AU]
                    refine ⟨by simp, sF hbox htok (fun _ h => h) (Nat.le_refl _) ?_⟩
                    simp [packA, strR, e1, e2, e3, e4, e5, y1, y2, hin]
                · have b3 : (r.rv == 0) = false := by simp [s3]
                  have n2 : ¬ r.plainR := fun h => s3 h.2
                  try (simp [w0, w1, w2, b1, b2, b3])
                  repeat (refine sR ?_; simp [w0, w1, w2, b1, b2, b3])
                  refine sC ?_
                  simp
                  try (simp)
                  repeat (refine sR ?_; simp)
                  refine sT ?_
                  try simp only [AU]
                  refine ⟨by simp, sF hbox htok (fun _ h => h) (Nat.le_refl _) ?_⟩
                  simp [packA, strR, e1, e2, e3, e4, e5, n2]
              · have b2 : (r.lv == 0) = false := by simp [s2]
                have n1 : ¬ r.plainL := fun h => s2 h.2
                try (simp [w0, w1, w2, b1, b2])
                repeat (refine sR ?_; simp [w0, w1, w2, b1, b2])
                refine sC ?_
                simp
                try (simp)
                repeat (refine sR ?_; simp)
                refine sT ?_
                try simp only [AU]
                refine ⟨by simp, sF hbox htok (fun _ h => h) (Nat.le_refl _) ?_⟩
                simp [packA, strR, e1, e2, e3, e4, e5, n1]
            · have b1 : (((r.lsl.length : Int) + r.lte.length + r.rsl.length + r.rte.length) == 0) = false := by rw [beq_eq_false_iff_ne]; exact s1
              have n1 : ¬ (r.plainL ∧ r.plainR ∧ r.inj = true) := fun h => by
                have h1 := h.1.1
                have h2 := h.2.1.1
                omega
              have hS : strR r = 8 := by simp only [strR, e1, e2, e3, e4, e5]; simp [n1]
              rw [hS]
              try (simp [w0, w1, w2, b1])
              repeat (refine sR ?_; simp [w0, w1, w2, b1])
              refine sC ?_
              simp
              try (simp)
              repeat (refine sR ?_; simp)
              refine sT ?_
              try simp only [AU]
              refine ⟨by simp, sF hbox htok (fun _ h => h) (Nat.le_refl _) ?_⟩
              simp [packA]
        · have b4 : (validM (exG r.lg r.k) r.rg r.i != 0) = true := by simp [e4]
          simp only [b4]
          refine sC ?_
          simp
          try (simp)
          repeat (refine sR ?_; simp)
          refine sT ?_
          try simp only [AU]
          refine ⟨by simp, sF hbox htok (fun _ h => h) (Nat.le_refl _) ?_⟩
          simp [packA, strR, e1, e2, e3, e4]
      · have b3 : (validP r.lg r.k != 0) = true := by simp [e3]
        simp only [b3]
        refine sC ?_
        simp
        try (simp)
        repeat (refine sR ?_; simp)
        refine sT ?_
        try simp only [AU]
        refine ⟨by simp, sF hbox htok (fun _ h => h) (Nat.le_refl _) ?_⟩
        simp [packA, strR, e1, e2, e3]
    · have b2 : (validG r.rg != 0) = true := by simp [e2]
      simp only [b2]
      refine sC ?_
      simp
      try (simp)
      repeat (refine sR ?_; simp)
      refine sT ?_
      try simp only [AU]
      refine ⟨by simp, sF hbox htok (fun _ h => h) (Nat.le_refl _) ?_⟩
      simp [packA, strR, e1, e2]
  · have b1 : (validG r.lg != 0) = true := by simp [e1]
    simp only [b1]
    refine sC ?_
    simp
    try (simp)
    repeat (refine sR ?_; simp)
    refine sT ?_
    try simp only [AU]
    refine ⟨by simp, sF hbox htok (fun _ h => h) (Nat.le_refl _) ?_⟩
    simp [packA, strR, e1]
def fewR (r : Ru) : Bool := fewG r.lg && fewG r.rg && fewM r.k 140 && fewM r.i 140
structure Ru.Big (r : Ru) : Prop where
  k : r.k.nodes.length ≤ bigN ∧ r.k.edges.length ≤ bigN
  i : r.i.nodes.length ≤ bigN ∧ r.i.edges.length ≤ bigN
  ls : r.lsl.length ≤ bigN
  lt : r.lte.length ≤ bigN
  rs : r.rsl.length ≤ bigN
  rt : r.rte.length ≤ bigN
  c : r.c.Big
theorem few34_c (r : Ru) (hb : r.Big) (tok : Nat → Bool) (nt : Nat) : DCall Tryz.prog 12 [r.av] tok nt (B (fewR r)) tok nt := by
  intro box nb
  obtain ⟨k1, k2⟩ := hb.k
  obtain ⟨i1, i2⟩ := hb.i
  rw [bigN_eq] at k1 k2 i1 i2
  have h1 := few05_c r.lg
  have h2 := few05_c r.rg
  have h3 := few07_c r.k 140 (by omega) (by omega)
  have h4 := few06_c r.i 140 (by omega) (by omega)
  refine sB Tryz.func12 Tryz.ntmps12 ?_
  intro hbox htok
  simp only at hbox htok
  apply AL.start
  try (simp)
  repeat (refine sR ?_; simp)
  refine Stop.of_d (h1 _ _) ?_
  simp
  try (simp)
  repeat (refine sR ?_; simp)
  cases e1 : fewG r.lg
  · try (simp)
    repeat (refine sR ?_; simp)
    refine sT ?_
    try simp only [AU]
    refine ⟨by simp, sF hbox htok (fun _ h => h) (Nat.le_refl _) ?_⟩
    simp [packA, fewR, e1]
  · try (simp)
    repeat (refine sR ?_; simp)
    refine Stop.of_d (h2 _ _) ?_
    simp
    try (simp)
    repeat (refine sR ?_; simp)
    cases e2 : fewG r.rg
    · try (simp)
      repeat (refine sR ?_; simp)
      refine sT ?_
      try simp only [AU]
      refine ⟨by simp, sF hbox htok (fun _ h => h) (Nat.le_refl _) ?_⟩
      simp [packA, fewR, e1, e2]
    · try (simp)
      repeat (refine sR ?_; simp)
      refine Stop.of_d (h3 _ _) ?_
      simp
      try (simp)
      repeat (refine sR ?_; simp)
      cases e3 : fewM r.k 140
      · try (simp)
        repeat (refine sR ?_; simp)
        refine sT ?_
        try simp only [AU]
        refine ⟨by simp, sF hbox htok (fun _ h => h) (Nat.le_refl _) ?_⟩
        simp [packA, fewR, e1, e2, e3]
      · try (simp)
        repeat (refine sR ?_; simp)
        refine Stop.of_d (h4 _ _) ?_
        simp
        try (simp)
        repeat (refine sR ?_; simp)
        refine sT ?_
        try simp only [AU]
        refine ⟨by simp, sF hbox htok (fun _ h => h) (Nat.le_refl _) ?_⟩
        simp [packA, fewR, e1, e2, e3]
theorem ovr_shs : ∀ (n : Nat) (c : Cd), SizeOf.sizeOf c < n → ∀ a, c.ovr a = 0 → c.shs = 0
  | 0, c, hn, _, _ => absurd hn (Nat.not_lt_zero _)
  | n + 1, c, hn, a, hv => by
    obtain ⟨h0, _, h2⟩ := Cd.ovr_zero hv
    rw [c.shs_eq, if_pos h0]
    exact errL_all fun x hx => ovr_shs n x (by have := Cd.kid_lt hx; omega) _ (h2 x hx)
set_option maxRecDepth 100000 in
theorem small34_c (c : Cd) (hb : c.Big) (h : c.shs = 0) (tok : Nat → Bool) (nt : Nat) : DCall Tryz.prog 45 [c.av] tok nt (.tup [(if smallC c ≠ 0 then cdOf 0 [] else c).av, I (smallC c)]) tok nt := by
  intro box nb
  have h1 := size11_c c hb
  have e : sizeR c = if smallC c ≠ 0 then (0, 0, smallC c) else (c.meas.1, c.meas.2, 0) := by rw [sizeR, if_neg (by simp [h])]
  rw [e] at h1
  by_cases e1 : smallC c = 0
  · rw [if_neg (by simp [e1])] at h1 ⊢
    rw [e1]
    refine sB Tryz.func45 Tryz.ntmps45 ?_
    intro hbox htok
    simp only at hbox htok
    apply AL.start
    try (simp)
    repeat (refine sR ?_; simp)
    refine Stop.of_d (h1 _ _) ?_
    simp
    try (simp)
    repeat (refine sR ?_; simp)
    refine sC ?_
    simp
    try (simp)
    repeat (refine sR ?_; simp)
    refine sT ?_
    try simp only [AU]
    refine ⟨by simp, sF hbox htok (fun _ h => h) (Nat.le_refl _) ?_⟩
    simp [packA]
  · rw [if_pos e1] at h1 ⊢
    rw [zav]
    have b1 : (smallC c != 0) = true := by simp [e1]
    refine sB Tryz.func45 Tryz.ntmps45 ?_
    intro hbox htok
    simp only at hbox htok
    apply AL.start
    try (simp)
    repeat (refine sR ?_; simp)
    refine Stop.of_d (h1 _ _) ?_
    simp
    try (simp [b1])
    repeat (refine sR ?_; simp [b1])
    refine sC ?_
    simp
    try (simp)
    repeat (refine sR ?_; simp)
    refine sT ?_
    try simp only [AU]
    refine ⟨by simp, sF hbox htok (fun _ h => h) (Nat.le_refl _) ?_⟩
    simp [packA]
end Go.AM
namespace Go.AM
open Go Go.Proofs
def backL (l : List Int) (n : Nat) : List Int := (List.range n).map fun (k : Nat) => indexI l (k : Int)
theorem backL_len (l : List Int) (n : Nat) : (backL l n).length = n := by simp [backL]
theorem backL_getD {l : List Int} {n k : Nat} (h : k < n) : (backL l n).getD k 0 = indexI l k := by simp [backL, h]
def BackOK : Prop := ∀ (l : List Int) (n : Nat), l.length ≤ 1000000 → n ≤ 1000000 → l.Nodup → ∀ (tok : Nat → Bool) (nt : Nat), DCall Tryz.prog 80 [.d (ints l), I n] tok nt (.d (ints (backL l n))) tok nt
theorem byK_back {q l : List Int} {n : Nat} (h : ∀ x ∈ q, 0 ≤ x ∧ x < n) : byK q (backL l n) q.length = q.map (indexI l) := byK_ext (by simp) fun i hi => by
  have := h _ (getD_mem (d := 0) hi)
  rw [backL_getD (by omega), mapI_getD hi, show (((q.getD i 0).toNat : Nat) : Int) = q.getD i 0 by omega]
set_option maxRecDepth 100000 in
theorem exists34_c (hB : BackOK) (c x : Cd) (hkx : c.kids = [x]) (k5 : c.kind = 5) (r : Ru) (hs : SpOk r.sp) (hm : Emb r.rg c.g c.m)
    (ih : r.sp.dng c.m c.g = false → ¬ r.sp.big c.m c.g → ∀ (tok : Nat → Bool) (nt : Nat), DCall Tryz.prog 44 [(r.sp.inn c.m c.g).ru.av, x.av] tok nt (.tup [(x.lft (r.sp.inn c.m c.g)).1.av, I (x.lft (r.sp.inn c.m c.g)).2]) tok nt) (tok : Nat → Bool) (nt : Nat) :
    DCall Tryz.prog 44 [r.av, c.av] tok nt (.tup [(c.lft r.sp).1.av, I (c.lft r.sp).2]) tok nt := by
  intro box nb
  obtain ⟨fl, fr, fk, fi⟩ := hs.fit
  obtain ⟨fm, _, fg⟩ := hm.fit
  have vi := hs.i.vm
  have vm := hm.vm
  have hvr := (validG_types vm.va).1
  have hvg := (validG_types vm.vb).1
  have s1 := ascending34_c r.i.nodes r.rg.nodes.length fi.n (by omega) hs.i.n vi.n
  have s2 := ascending34_c r.i.edges r.rg.edges.length fi.e (by omega) hs.i.e vi.e
  have hi := imgP_vp hs.i
  have hC := of12_c r.rg c.g (imgP r.rg r.i) c.m fr fg fm hi.emb.fit.1 hm hi
  have hL : c.lft r.sp = lftStep 5 c.m c.g r.sp (fun s => kidsE (fun x => Cd.lft x s) [x]) (fun s => kidsE (fun x => Cd.lft x s) [x]) := by rw [c.lft_eq, k5, hkx]
  have b5 : (c.kind != 5) = false := by simp [k5]
  refine sB Tryz.func44 Tryz.ntmps44 ?_
  intro hbox htok
  simp only at hbox htok
  apply AL.start
  try (simp [b5])
  repeat (refine sR ?_; simp [b5])
  refine sC ?_
  simp
  try (simp)
  repeat (refine sR ?_; simp)
  refine Stop.of_d (s1 _ _) ?_
  simp
  try (simp)
  repeat (refine sR ?_; simp)
  refine Stop.of_d (s2 _ _) ?_
  simp
  try (simp)
  repeat (refine sR ?_; simp)
  refine Stop.of_d (hC _ _) ?_
  simp
  by_cases hd : r.sp.dng c.m c.g = true
  · have e : cmpR r.rg c.g (imgP r.rg r.i) c.m = (⟨[], []⟩, 14) := if_pos hd
    rw [e, show c.lft r.sp = (noC, 0) by rw [hL, lftStep, if_neg (by simp), if_pos hd]]
    have hn := false34_c
    try (simp)
    repeat (refine sR ?_; simp)
    refine sC ?_
    simp
    try (simp)
    repeat (refine sR ?_; simp)
    refine Stop.of_d (hn _ _) ?_
    simp
    try (simp)
    repeat (refine sR ?_; simp)
    refine sT ?_
    try simp only [AU]
    refine ⟨by simp, sF hbox htok (fun _ h => h) (Nat.le_refl _) ?_⟩
    simp [packA]
  · have hd' : r.sp.dng c.m c.g = false := by simpa using hd
    have e : cmpR r.rg c.g (imgP r.rg r.i) c.m = (r.sp.z c.m c.g, 0) := if_neg hd
    rw [e]
    have ih := ih hd'
    have vz := Sp.z_vp hs hm hd'
    have fz := vz.emb.fit.1
    have hgo := Sp.go_emb hs hm hd'
    have x1 := extract07_c c.g (r.sp.z c.m c.g) fg fz vz
    have x2 := extract07_c r.lg r.k fl fk hs.k
    have t0 := then63_c r.i c.m fi (by rw [vm.ln]; exact vi.n) (by rw [vm.le]; exact vi.e)
    have ft : (thenM r.i c.m).Fit := (hs.i.comp hm).fit.1
    have vt : VM (exG r.lg r.k) c.g (thenM r.i c.m) := (hs.i.comp hm).vm
    have k1 := hB (r.sp.z c.m c.g).nodes c.g.nodes.length fz.n (by omega) (nodup_of_lt vz.sn)
    have k2 := hB (r.sp.z c.m c.g).edges c.g.edges.length fz.e (by omega) (nodup_of_lt vz.se)
    have a1 := through68_c (thenM r.i c.m).nodes (backL (r.sp.z c.m c.g).nodes c.g.nodes.length) ft.n (by rw [backL_len]; exact vt.n)
    have a2 := through68_c (thenM r.i c.m).edges (backL (r.sp.z c.m c.g).edges c.g.edges.length) ft.e (by rw [backL_len]; exact vt.e)
    rw [byK_back vt.n] at a1
    rw [byK_back vt.e] at a2
    have po := po10_c (exG r.lg r.k) r.lg (r.sp.rest c.m c.g) r.k (r.sp.go c.m c.g) hs.k.emb hgo
    have ego : r.sp.go c.m c.g = ⟨(thenM r.i c.m).nodes.map (indexI (r.sp.z c.m c.g).nodes), (thenM r.i c.m).edges.map (indexI (r.sp.z c.m c.g).edges)⟩ := rfl
    obtain ⟨P, hP⟩ : ∃ P, pushR r.lg (r.sp.rest c.m c.g) r.k (r.sp.go c.m c.g) = P := ⟨_, rfl⟩
    rw [hP, ego] at po
    have erest : exG c.g (r.sp.z c.m c.g) = r.sp.rest c.m c.g := rfl
    rw [erest] at x1
    generalize hT : thenM r.i c.m = T at *
    try (simp)
    repeat (refine sR ?_; simp)
    refine sC ?_
    simp
    try (simp)
    repeat (refine sR ?_; simp)
    refine sC ?_
    simp
    try (simp)
    repeat (refine sR ?_; simp)
    refine Stop.of_d (x2 _ _) ?_
    simp
    try (simp)
    repeat (refine sR ?_; simp)
    refine Stop.of_d (x1 _ _) ?_
    simp
    try (simp)
    repeat (refine sR ?_; simp)
    refine Stop.of_d (t0 _ _) ?_
    simp
    try (simp)
    repeat (refine sR ?_; simp)
    refine Stop.of_d (k1 _ _) ?_
    simp
    try (simp)
    repeat (refine sR ?_; simp)
    refine Stop.of_d (a1 _ _) ?_
    simp
    try (simp)
    repeat (refine sR ?_; simp)
    refine Stop.of_d (k2 _ _) ?_
    simp
    try (simp)
    repeat (refine sR ?_; simp)
    refine Stop.of_d (a2 _ _) ?_
    simp
    try (simp)
    repeat (refine sR ?_; simp)
    refine Stop.of_d (po _ _) ?_
    simp
    by_cases hb : r.sp.big c.m c.g
    · have e : P = (⟨⟨[], []⟩, ⟨[], []⟩, ⟨[], []⟩⟩, 3) := by rw [← hP]; exact if_pos hb
      rw [e, show c.lft r.sp = (cdOf 0 [], 3) by rw [hL, lftStep, if_neg (by simp), if_neg (by simp [hd']), if_pos hb], zav]
      try (simp)
      repeat (refine sR ?_; simp)
      refine sC ?_
      simp
      try (simp)
      repeat (refine sR ?_; simp)
      refine sT ?_
      try simp only [AU]
      refine ⟨by simp, sF hbox htok (fun _ h => h) (Nat.le_refl _) ?_⟩
      simp [packA]
    · have e : P = (r.sp.po c.m c.g, 0) := by rw [← hP]; exact if_neg hb
      rw [e]
      have ih := ih hb
      obtain ⟨p1, p2, p3⟩ := Sp.po_emb hs hm hd' hb
      have v3 := p3.vm
      have kp := kept34_c (r.sp.rest c.m c.g) (r.sp.po c.m c.g).g c.g (r.sp.z c.m c.g) (r.sp.po c.m c.g).r p3 (by rw [v3.ln]; simp [Sp.rest, exG]) (by rw [v3.le]; simp [Sp.rest, exG])
      have eN : r.sp.inn c.m c.g = ⟨(r.sp.po c.m c.g).g, c.g, imgP (r.sp.po c.m c.g).g (r.sp.po c.m c.g).r, thenM (liftM (r.sp.po c.m c.g).r (imgP (r.sp.po c.m c.g).g (r.sp.po c.m c.g).r)) (r.sp.z c.m c.g)⟩ := rfl
      rw [← eN] at kp
      obtain ⟨R, hR⟩ : ∃ R, x.lft (r.sp.inn c.m c.g) = R := ⟨_, rfl⟩
      rw [hR] at ih
      try (simp)
      repeat (refine sR ?_; simp)
      refine sC ?_
      simp
      try (simp)
      repeat (refine sR ?_; simp)
      refine Stop.of_d (kp _ _) ?_
      simp
      try (simp [hkx, Cd.cells_eq])
      repeat (refine sR ?_; simp [hkx, Cd.cells_eq])
      refine Stop.of_d (ih _ _) ?_
      simp
      try (simp)
      repeat (refine sR ?_; simp)
      by_cases h0 : R.2 = 0
      · rw [show c.lft r.sp = (.mk 5 [R.1] (r.sp.po c.m c.g).l (r.sp.po c.m c.g).g [] 0 [], 0) by rw [hL, lftStep, if_neg (by simp), if_neg (by simp [hd']), if_neg hb]; have hk : kidsE (fun x => Cd.lft x (r.sp.inn c.m c.g)) [x] = ([R.1], 0) := by { unfold kidsE; rw [hR, if_neg (by simp [h0])]; exact if_neg (by simp [kidsE]) }; rw [hk]; exact if_neg (by simp)]
        have hav : (Cd.mk 5 [R.1] (r.sp.po c.m c.g).l (r.sp.po c.m c.g).g [] 0 []).av = .agg [I 5, .d (.sl 9 [R.1.cells]), .d (ints (r.sp.po c.m c.g).l.nodes), .d (ints (r.sp.po c.m c.g).l.edges), .d (ints (r.sp.po c.m c.g).g.nodes), .d (AM.edges (r.sp.po c.m c.g).g.edges), .d (.sl 4 []), I 0, .d (.sl 5 [])] := rfl
        rw [R.1.cells_eq] at hav
        rw [hav]
        simp only [h0]
        refine sC ?_
        simp
        try (simp)
        repeat (refine sR ?_; simp)
        refine sT ?_
        try simp only [AU]
        refine ⟨by simp, sF hbox htok (fun _ h => h) (Nat.le_refl _) ?_⟩
        simp [packA]
      · rw [show c.lft r.sp = (cdOf 0 [], R.2) by rw [hL, lftStep, if_neg (by simp), if_neg (by simp [hd']), if_neg hb]; have hk : kidsE (fun x => Cd.lft x (r.sp.inn c.m c.g)) [x] = ([], R.2) := by { unfold kidsE; rw [hR]; exact if_pos h0 }; rw [hk]; exact if_pos h0, zav]
        have b0 : (R.2 != 0) = true := by simp [h0]
        simp only [b0]
        refine sC ?_
        simp
        try (simp)
        repeat (refine sR ?_; simp)
        refine sT ?_
        try simp only [AU]
        refine ⟨by simp, sF hbox htok (fun _ h => h) (Nat.le_refl _) ?_⟩
        simp [packA]
end Go.AM
namespace Go.AM
open Go
theorem backL_succ (l : List Int) (k : Nat) : backL l (k + 1) = backL l k ++ [indexI l k] := by simp [backL, List.range_succ]
def backS (l : List Int) (k j : Nat) : List Int := backL l k ++ [indexI (l.take j) k]
theorem backS_len (l : List Int) (k j : Nat) : (backS l k j).length = k + 1 := by simp [backS, backL]
theorem backS_zero (l : List Int) (k : Nat) : backS l k 0 = backL l k ++ [-1] := by simp [backS, indexI]
theorem backS_all (l : List Int) (k : Nat) : backS l k l.length = backL l (k + 1) := by simp [backS, backL_succ]
theorem indexI_none {l : List Int} {v : Int} (h : v ∉ l) : indexI l v = -1 := by
  rcases indexI_spec l v with ⟨h1, _⟩ | ⟨k, _, h3, h4⟩
  · exact h1
  · exact absurd (h4 ▸ getD_mem h3) h
theorem take_mem {l : List Int} {j : Nat} (h : j < l.length) {v : Int} : v ∈ l.take (j + 1) ↔ v ∈ l.take j ∨ v = l.getD j 0 := by
  rw [← List.take_append_getElem h, List.mem_append, List.mem_singleton]
  simp [h]
theorem index_no {l : List Int} {j : Nat} (h : j < l.length) {v : Int} (hv : l.getD j 0 ≠ v) (hn : l.Nodup) : indexI (l.take (j + 1)) v = indexI (l.take j) v := by
  by_cases hm : v ∈ l.take j
  · obtain ⟨a1, a2, a3⟩ := indexI_in hm
    obtain ⟨b1, b2, b3⟩ := indexI_in ((take_mem h).2 (.inl hm))
    have hnd : (l.take (j + 1)).Nodup := hn.sublist (List.take_sublist _ _)
    have hl : (l.take j).length ≤ (l.take (j + 1)).length := by simp; omega
    have e : (l.take (j + 1)).getD (indexI (l.take j) v).toNat 0 = v := by
      have q : (indexI (l.take j) v).toNat < (l.take j).length := by omega
      have q1 : (indexI (l.take j) v).toNat < j := by simp at q; omega
      have q2 : (l.take (j + 1)).getD (indexI (l.take j) v).toNat 0 = (l.take j).getD (indexI (l.take j) v).toNat 0 := by
        simp only [List.getD_eq_getElem?_getD, List.getElem?_take]
        rw [if_pos (by omega), if_pos q1]
      rw [q2]; exact a3
    have := getD_inj hnd (show (indexI (l.take j) v).toNat < (l.take (j + 1)).length by omega) (show (indexI (l.take (j + 1)) v).toNat < (l.take (j + 1)).length by omega) (e.trans b3.symm)
    omega
  · rw [indexI_none hm, indexI_none fun hm2 => by
      rcases (take_mem h).1 hm2 with h1 | h1
      · exact hm h1
      · exact hv h1.symm]
theorem index_yes {l : List Int} {j : Nat} (h : j < l.length) (hn : l.Nodup) : indexI (l.take (j + 1)) (l.getD j 0) = j := by
  have hnd : (l.take (j + 1)).Nodup := hn.sublist (List.take_sublist _ _)
  have hj : j < (l.take (j + 1)).length := by simp; omega
  have e : (l.take (j + 1)).getD j 0 = l.getD j 0 := by
    simp only [List.getD_eq_getElem?_getD, List.getElem?_take]
    rw [if_pos (by omega)]
  have := indexI_gd hnd hj
  rwa [e] at this
theorem backS_no {l : List Int} {k j : Nat} (h : j < l.length) (hv : l.getD j 0 ≠ k) (hn : l.Nodup) : backS l k (j + 1) = backS l k j := by rw [backS, backS, index_no h hv hn]
theorem backS_yes {l : List Int} {k j : Nat} (h : j < l.length) (hv : l.getD j 0 = k) (hn : l.Nodup) : backS l k (j + 1) = (backS l k j).set k j := by
  have h2 := index_yes h hn
  rw [hv] at h2
  have hl : (backL l k).length = k := by simp [backL]
  rw [backS, backS, h2, List.set_append_right _ _ (by omega), hl]
  simp
end Go.AM
namespace Go.Proofs.YtfgcpmeadeehhaaGreat.back
open Go Go.Proofs Go.RowKit Go.AM
theorem info3 : (Tryz.prog.info? 3).map (fun i => (i.zero, i.size, i.bytes)) = some (some (.int .i64 0), 1, 8) := by kernel_rfl
set_option maxHeartbeats 2000000 in
set_option maxRecDepth 100000 in
theorem any (b off n c m : Nat) (zs : List Int) (w : World) (hz : zs.length = n) (hn : n ≤ 1000000) (hm : m ≤ 1000000) (hd : zs.Nodup) (hb : b < w.heap.size) (hc : ∀ j, j < zs.length → w.cell? ⟨b, off + j, none⟩ = some (.int .i64 (zs.getD j 0))) :
    Calls Tryz.prog 80 #[.slice (some ⟨b, off, none⟩) n c, .int .i64 m] w fun e w' => ∃ v, e = .returned v ∧ w'.ownsRow w.heap.size 3 1 v m ((backL zs m).map (Value.int .i64)) ∧ Below w.heap.size w w' := by
  obtain ⟨i0, hi, hz0, hz1, hz2⟩ := info_parts info3
  go_enter Tryz.func80, Tryz.ntmps80
  go_wp2
  go_loopw [5, 6] (fun v i wr => ∃ k : Nat, k ≤ m ∧ i = .int .i64 k ∧ wr.ownsRow w.heap.size 3 1 v k ((backL zs k).map (Value.int .i64)) ∧ Below w.heap.size w wr) (fun _ i _ => m - (intOf i).toNat)
  case atStart => exact ⟨0, Nat.zero_le _, rfl, World.ownsRow_nil _ _ _ _, Below.refl _ _⟩
  case round =>
    obtain ⟨k, hk, rfl, hown, hnx⟩ := hrel
    go_wp2_with (first
      | (at_builtin; refine wpList_append_own _ rfl _ _ 22 rfl w.heap.size 3 i0 (.int .i64 0) 1 8 Tryz.underlying22 hi hz0 hz1 hz2 rfl (by decide) _ _ _ rfl (hown.alloc _) ⟨wr.heap.size, 0, none⟩ 1 1 [.int .i64 (-1)] rfl rfl ?c1 ?c2 ?c3 ?c4 ?c5 ?_)
      | go_in)
    case c1 =>
      intro j u hj
      match j, hj with
      | 0, hj => simp at hj; subst hj; simp [Addr.add]
    case c2 => intro u hu; simp at hu; subst hu; rfl
    case c3 => unfold maxLen; omega
    case c4 => omega
    case c5 => have := hnx.size; simp; omega
    · intro v' w1 hown' hgrow hne
      have hk' : k < m := by assumption
      obtain ⟨g, cap, rfl, hg1, hg2⟩ := hown'.form (by omega)
      have hnx1 : Below w.heap.size w w1 := (hnx.alloc (by have := hnx.size; omega) _).grown hgrow (by have := hnx.size; simp; omega) (fun q hq => (hown.lt q hq).1)
      rw [show List.map (Value.int .i64) (backL zs k) ++ [Value.int .i64 (-1)] = (backS zs k 0).map (Value.int .i64) by rw [backS_zero]; simp] at hown'
      clear hgrow hown hnx hne
      go_wp2
      go_loopw [7] (fun i wr => ∃ j : Nat, j ≤ n ∧ i = .int .i64 j ∧ wr.ownsRow w.heap.size 3 1 (.slice (some ⟨g, 0, none⟩) (k + 1) cap) (k + 1) ((backS zs k j).map (Value.int .i64)) ∧ Below w.heap.size w wr) (fun i _ => n - (intOf i).toNat)
      case atStart => exact ⟨0, Nat.zero_le _, rfl, hown', hnx1⟩
      case round =>
        clear hown' hnx1
        obtain ⟨j, hj, rfl, hown, hnx⟩ := hrel
        have hcx : j < n → wr.cell? ⟨b, off + j, none⟩ = some (.int .i64 (zs.getD j 0)) := fun h => (hnx.cell (by exact hb)).trans (hc j (by omega))
        have hst := hown.stored k (.int .i64 j)
        have hfz := hown.frozenAt k
        have hck : wr.cell? ⟨g, k, none⟩ = some (.int .i64 ((backS zs k j).getD k 0)) := by
          rw [hown.cellAt k (by omega), List.getElem?_map, List.getElem?_eq_getElem (by rw [backS_len]; omega)]
          simp [show k < (backS zs k j).length by rw [backS_len]; omega]
        go_wp2
        · have hlt : j < n := by assumption
          have hjl : j < zs.length := by omega
          have h : (zs[j] == (k : Int)) = true := by assumption
          have e : zs.getD j 0 = (k : Int) := by
            have := beq_iff_eq.1 h
            simpa [hjl] using this
          refine ⟨⟨j + 1, by omega, by simp, ?_, hnx.setCell hg1 _⟩, by simp [intOf]; omega⟩
          rw [backS_yes hjl e hd, List.map_set]
          exact hst.1
        · have hlt : j < n := by assumption
          have hjl : j < zs.length := by omega
          have h : (zs[j] == (k : Int)) = false := by assumption
          have e : zs.getD j 0 ≠ (k : Int) := by
            have := beq_eq_false_iff_ne.1 h
            simpa [hjl] using this
          refine ⟨⟨j + 1, by omega, by simp, ?_, hnx⟩, by simp [intOf]; omega⟩
          rw [backS_no hjl e hd]
          exact hown
        · have hlt : ¬ j < n := by assumption
          have hjn : j = zs.length := by omega
          rw [hjn, backS_all] at hown
          exact ⟨⟨k + 1, by omega, by simp, hown, hnx⟩, by simp [intOf]; omega⟩
    · go_ret
      have hk' : ¬ k < m := by assumption
      obtain rfl : k = m := by omega
      exact ⟨_, rfl, hown, hnx⟩
end Go.Proofs.YtfgcpmeadeehhaaGreat.back
namespace Go.Proofs.YtfgcpmeadeehhaaGreat.back
open Go Go.Proofs Go.RowKit Go.AM
set_option maxHeartbeats 2000000 in
set_option maxRecDepth 100000 in
theorem zero (A : Option Addr) (c m : Nat) (w : World) (hm : m ≤ 1000000) :
    Calls Tryz.prog 80 #[.slice A 0 c, .int .i64 m] w fun e w' => ∃ v, e = .returned v ∧ w'.ownsRow w.heap.size 3 1 v m ((backL [] m).map (Value.int .i64)) ∧ Below w.heap.size w w' := by
  obtain ⟨i0, hi, hz0, hz1, hz2⟩ := info_parts info3
  go_enter Tryz.func80, Tryz.ntmps80
  go_wp2
  go_loopw [5, 6] (fun v i wr => ∃ k : Nat, k ≤ m ∧ i = .int .i64 k ∧ wr.ownsRow w.heap.size 3 1 v k ((backL [] k).map (Value.int .i64)) ∧ Below w.heap.size w wr) (fun _ i _ => m - (intOf i).toNat)
  case atStart => exact ⟨0, Nat.zero_le _, rfl, World.ownsRow_nil _ _ _ _, Below.refl _ _⟩
  case round =>
    obtain ⟨k, hk, rfl, hown, hnx⟩ := hrel
    go_wp2_with (first
      | (at_builtin; refine wpList_append_own _ rfl _ _ 22 rfl w.heap.size 3 i0 (.int .i64 0) 1 8 Tryz.underlying22 hi hz0 hz1 hz2 rfl (by decide) _ _ _ rfl (hown.alloc _) ⟨wr.heap.size, 0, none⟩ 1 1 [.int .i64 (-1)] rfl rfl ?c1 ?c2 ?c3 ?c4 ?c5 ?_)
      | go_in)
    case c1 =>
      intro j u hj
      match j, hj with
      | 0, hj => simp at hj; subst hj; simp [Addr.add]
    case c2 => intro u hu; simp at hu; subst hu; rfl
    case c3 => unfold maxLen; omega
    case c4 => omega
    case c5 => have := hnx.size; simp; omega
    · intro v' w1 hown' hgrow hne
      have hk' : k < m := by assumption
      have hnx1 : Below w.heap.size w w1 := (hnx.alloc (by have := hnx.size; omega) _).grown hgrow (by have := hnx.size; simp; omega) (fun q hq => (hown.lt q hq).1)
      rw [show List.map (Value.int .i64) (backL [] k) ++ [Value.int .i64 (-1)] = (backL [] (k + 1)).map (Value.int .i64) by rw [backL_succ]; simp [indexI]] at hown'
      clear hgrow hown hnx hne
      go_wp2
      go_loopw [7] (fun i wr => i = .int .i64 0 ∧ wr = w1) (fun i _ => 0)
      case atStart => exact ⟨rfl, rfl⟩
      case round =>
        obtain ⟨rfl, rfl⟩ := hrel
        go_wp2
        exact ⟨⟨k + 1, by omega, by simp, hown', hnx1⟩, by simp [intOf]; omega⟩
    · go_ret
      have hk' : ¬ k < m := by assumption
      obtain rfl : k = m := by omega
      exact ⟨_, rfl, hown, hnx⟩
end Go.Proofs.YtfgcpmeadeehhaaGreat.back
namespace Go.AM
open Go Go.Proofs Go.RowKit
theorem backOK : BackOK := by
  intro l n hl hn hd tok nt box nb
  refine ⟨Enters.mk Tryz.func80 rfl (by kernel_rfl), fun G w vals hm hr => ?_⟩
  obtain ⟨hlen, hrv⟩ := hr
  match vals, hlen with
  | [v, u], _ =>
    have h0 := hrv 0 (by simp) (by simp)
    have h1 := hrv 1 (by simp) (by simp)
    simp only [List.getElem_cons_zero, List.getElem_cons_succ] at h0 h1
    cases h1 with
    | d h1 =>
    cases h1 with
    | raw h1 =>
    cases h0 with
    | d h0 =>
      obtain ⟨A, cap, rfl, hcap, hmax, hA, hc⟩ := rvd_ints h0
      have hll : (backL l n).length = n := backL_len l n
      by_cases e : l = []
      · subst e
        refine (YtfgcpmeadeehhaaGreat.back.zero A cap n w hn).mono ?_
        rintro e w' ⟨v, rfl, ho, hb⟩
        rw [← hll] at ho
        simp only [hll] at ho
        exact ⟨_, _, _, G, rfl, ⟨rfl, rfl⟩, rfl, relM_below hm hb, .d (rvd_owns hm (by rw [hll]; exact ho)), le_below hm hb, fun k hk => ⟨hk, rfl⟩⟩
      · obtain ⟨a, rfl⟩ := hA e
        have hp : 0 < l.length := List.length_pos_iff.2 e
        have hc' := hc a rfl
        have hs : a.spot = none := by
          cases hsp : a.spot with
          | none => rfl
          | some q =>
            exfalso
            have := hc' 0 hp
            simp only [World.cell?, Addr.add, hsp, Option.isSome_some, ↓reduceIte] at this
            split at this <;> simp at this
        obtain ⟨b, off, sp⟩ := a
        simp only at hs
        subst hs
        have hcc : ∀ j, j < l.length → w.cell? ⟨b, off + j, none⟩ = some (.int .i64 (l.getD j 0)) := fun j hj => by
          have h1 := hc' j hj
          unfold Addr.add at h1
          split at h1
          · rename_i e; subst e; exact h1
          · exact h1
        have hbw : b < w.heap.size := lt_of_cell (hcc 0 hp)
        refine (YtfgcpmeadeehhaaGreat.back.any b off l.length cap n l w rfl hl hn hd hbw hcc).mono ?_
        rintro e w' ⟨v, rfl, hown, hb⟩
        exact ⟨v, _, _, G, rfl, ⟨rfl, rfl⟩, rfl, relM_below hm hb, .d (rvd_owns hm (by rw [hll]; exact hown)), le_below hm hb, fun k hk => ⟨hk, rfl⟩⟩
end Go.AM
namespace Go.AM
open Go
def upP (ps : List Int) (i : Nat) : List Int := if _h : 0 ≤ ps.getD i 0 ∧ (ps.getD i 0).toNat < i then (i : Int) :: upP ps (ps.getD i 0).toNat else [(i : Int)]
termination_by i
decreasing_by exact _h.2
def upI (ps : List Int) (a : Int) : List Int := if a < 0 then [] else upP ps a.toNat
theorem upI_neg {ps : List Int} {a : Int} (h : a < 0) : upI ps a = [] := if_pos h
theorem upI_up {ps : List Int} {a : Int} (h : 0 ≤ a) (hp : ps.getD a.toNat 0 < a) : upI ps a = a :: upI ps (ps.getD a.toNat 0) := by
  rw [upI, if_neg (by omega), upP]
  by_cases h0 : 0 ≤ ps.getD a.toNat 0
  · rw [dif_pos ⟨h0, by omega⟩, upI, if_neg (by omega), Int.toNat_of_nonneg h]
  · rw [dif_neg (fun h2 => h0 h2.1), upI, if_pos (by omega), Int.toNat_of_nonneg h]
theorem upP_len (ps : List Int) : ∀ n i, i < n → (upP ps i).length ≤ i + 1
  | 0, i, h => absurd h (Nat.not_lt_zero _)
  | n + 1, i, h => by
    rw [upP]
    split
    · rename_i h1
      have := upP_len ps n _ (show (ps.getD i 0).toNat < n by omega)
      simp only [List.length_cons]
      omega
    · simp
theorem upI_len (ps : List Int) (a : Int) : (upI ps a).length ≤ (a + 1).toNat := by
  unfold upI
  split
  · simp
  · have := upP_len ps _ _ (Nat.lt_succ_self a.toNat)
    omega
end Go.AM
namespace Go.Proofs.YtfgcpmeadeehhaaGreat.line
open Go Go.Proofs Go.RowKit Go.AM Go.Sort
theorem own_le {w : World} {base base' : Nat} {e : TypeId} {size : Nat} {v : Value} {n : Nat} {xs : List Value} (h : w.ownsRow base e size v n xs) (hb : base' ≤ base) : w.ownsRow base' e size v n xs :=
  ⟨h.1, h.2.imp id fun ⟨g, cap, cur, a, b, c⟩ => ⟨g, cap, cur, a, Nat.le_trans hb b, c⟩⟩
theorem rev {base n : Nat} {v : Value} {l : List Int} {w0 w : World} (hown : w.ownsRow base 3 1 v n (l.map (Value.int .i64))) (hb : Below base w0 w) (hl : l.length ≤ 1000000) :
    Calls Tryz.prog 256 #[v] w fun e w' => e = .returned (.tuple #[]) ∧ w'.ownsRow base 3 1 v n (l.reverse.map (Value.int .i64)) ∧ Below base w0 w' := by
  rcases hown.2 with ⟨rfl, e0⟩ | ⟨g, cap, cur, rfl, hg1, hg2, hg3, hg4, hg5, hg6⟩
  · refine (Tryz.slices_Reverse_int_empty _ _ _).mono ?_
    rintro e w3 ⟨rfl, rfl⟩
    subst e0
    have : l = [] := List.length_eq_zero_iff.1 (by simpa using hown.1)
    subst this
    exact ⟨rfl, hown, hb⟩
  · obtain ⟨g', cap', hv, hgb, hgl, hncap, hcm, hlen, hH⟩ := Lib.holds_of_ownsRow hown (by simp)
    cases hv
    have hrev := Tryz.slices_Reverse_int g 0 cap l _ hH (by omega)
    rw [hlen] at hrev
    refine hrev.mono ?_
    rintro e w3 ⟨rfl, q, rfl⟩
    have hh := Lib.ownsRow_putRow (q := q) (ys := l.reverse) hown (by simpa using hlen) (Nat.le_refl _)
    rw [List.take_of_length_le (by simp [hlen])] at hh
    exact ⟨rfl, hh, Lib.below_putRow hb hg1⟩
set_option maxHeartbeats 2000000 in
set_option maxRecDepth 100000 in
theorem any (b off n c : Nat) (u : Value) (a0 : Int) (ps : List Int) (w : World) (hz : ps.length = n) (hn : n ≤ 1000000) (ha : a0 < n) (hp : ∀ j, j < n → ps.getD j 0 < j) (hb : b < w.heap.size) (hc : ∀ j, j < n → w.cell? ⟨b, off + j * 4 + 1, none⟩ = some (.int .i64 (ps.getD j 0))) :
    Calls Tryz.prog 225 #[.agg #[.slice (some ⟨b, off, none⟩) n c, u], .int .i64 a0] w fun e w' => ∃ v, e = .returned v ∧ w'.ownsRow w.heap.size 3 1 v (upI ps a0).length ((upI ps a0).reverse.map (Value.int .i64)) ∧ Below w.heap.size w w' := by
  obtain ⟨i0, hi, hz0, hz1, hz2'⟩ := info_parts YtfgcpmeadeehhaaGreat.back.info3
  go_enter Tryz.func225, Tryz.ntmps225
  go_wp2
  have hsz : (w.alloc (Obj.cells #[Value.slice (some { block := b, off := off }) n c, u] 49)).heap.size = w.heap.size + 1 := by unfold World.alloc; exact Array.size_push _
  have hz2 : (w.alloc (Obj.cells #[Value.slice (some { block := b, off := off }) n c, u] 49)).cell? ⟨w.heap.size, 0, none⟩ = some (Value.slice (some { block := b, off := off }) n c) := by rw [World.cell?_alloc_at _ _ _ _ rfl]; rfl
  have hcc : ∀ j, j < n → (w.alloc (Obj.cells #[Value.slice (some { block := b, off := off }) n c, u] 49)).cell? ⟨b, off + j * 4 + 1, none⟩ = some (.int .i64 (ps.getD j 0)) := fun j hj => ((Below.refl _ w).alloc (Nat.le_refl _) _ |>.cell (by exact hb)).trans (hc j hj)
  have hbel : Below w.heap.size w (w.alloc (Obj.cells #[Value.slice (some { block := b, off := off }) n c, u] 49)) := (Below.refl _ w).alloc (Nat.le_refl _) _
  generalize w.alloc (Obj.cells #[Value.slice (some { block := b, off := off }) n c, u] 49) = w1 at *
  go_loopw [1, 5] (fun x v wr => ∃ (a : Int) (l : List Int), x = .int .i64 a ∧ a < n ∧ l ++ upI ps a = upI ps a0 ∧ wr.ownsRow w1.heap.size 3 1 v l.length (l.map (Value.int .i64)) ∧ Below w1.heap.size w1 wr) (fun x _ _ => (intOf x + 1).toNat)
  case atStart => exact ⟨a0, [], rfl, ha, rfl, World.ownsRow_nil _ _ _ _, Below.refl _ _⟩
  case round =>
    obtain ⟨a, l, rfl, hal, hl, hown, hnx⟩ := hrel
    have hll : l.length ≤ n := by
      have h1 := congrArg List.length hl
      have h2 := upI_len ps a0
      rw [List.length_append] at h1
      omega
    have hr2 := (hnx.cell (p := ⟨w.heap.size, 0, none⟩) (by simp; omega)).trans hz2
    go_wp2_with (first
      | (at_builtin; refine wpList_append_own _ rfl _ _ 22 rfl w1.heap.size 3 i0 (.int .i64 0) 1 8 Tryz.underlying22 hi hz0 hz1 hz2' rfl (by decide) _ _ _ rfl (hown.alloc _) ⟨wr.heap.size, 0, none⟩ 1 1 [.int .i64 a] rfl rfl ?c1 ?c2 ?c3 ?c4 ?c5 ?_)
      | (go_at_call 256; refine (rev hown hnx (by omega)).mono ?_; rintro e w3 ⟨rfl, hown3, hnx3⟩)
      | go_in)
    case c1 =>
      intro j u hj
      match j, hj with
      | 0, hj => simp at hj; subst hj; simp [Addr.add]
    case c2 => intro u hu; simp at hu; subst hu; rfl
    case c3 => unfold maxLen; omega
    case c4 => omega
    case c5 => have := hnx.size; simp; omega
    · intro v' w2 hown' hgrow hne
      have h0 : 0 ≤ a := by assumption
      obtain ⟨k, rfl⟩ := Int.eq_ofNat_of_zero_le h0
      have hnx1 : Below w1.heap.size w1 w2 := (hnx.alloc (by have := hnx.size; omega) _).grown hgrow (by have := hnx.size; simp; omega) (fun q hq => (hown.lt q hq).1)
      have hr3 := (hnx1.cell (p := ⟨w.heap.size, 0, none⟩) (by simp; omega)).trans hz2
      have hr4 := (hnx1.cell (p := ⟨b, off + k * 4 + 1, none⟩) (by simp; omega)).trans (hcc k (by omega))
      have hup := upI_up (ps := ps) h0 (by have := hp k (by omega); simpa using this)
      rw [hup, Int.toNat_natCast] at hl
      clear hgrow hown hnx hne
      go_wp2
      refine ⟨⟨ps.getD k 0, l ++ [(k : Int)], rfl, by have := hp k (by omega); omega, by rw [List.append_assoc]; exact hl, by simpa [hsz] using hown', hnx1⟩, ?_⟩
      have := hp k (by omega)
      simp at this
      simp [intOf]
      omega
    · go_ret
      have h0 : a < 0 := by assumption
      rw [upI_neg h0, List.append_nil] at hl
      rw [← hl]
      exact ⟨_, rfl, own_le hown3 (by omega), hbel.trans (hnx3.mono (by omega))⟩
end Go.Proofs.YtfgcpmeadeehhaaGreat.line
namespace Go.AM
open Go Go.Proofs Go.RowKit
abbrev Ty.pars (t : Ty) : List Int := t.nodes.map NT.par
theorem pars_getD (t : Ty) {j : Nat} (h : j < t.nodes.length) : t.pars.getD j 0 = (t.nd j).par := by simp [Ty.pars, Ty.nd, h]
theorem rvd_pars {c : Addr → Option Value} {ps : Addr → Prop} {l : List NT} {v : Value} (h : RVd c ps (nts l) v) :
    ∃ A cap, v = .slice A l.length cap ∧ l.length ≤ cap ∧ cap ≤ maxLen ∧ (l ≠ [] → ∃ a, A = some a) ∧ ∀ a, A = some a → ∀ i (hi : i < l.length), c (a.add (i * 4)) = some (.string l[i].name) ∧ c (a.add (i * 4 + 1)) = some (.int .i64 l[i].par) := by
  unfold nts at h
  generalize hes : l.map NT.cells = es at h
  cases h with
  | @sl _ _ A cap u hcap hmax hsz hA hc hr =>
    have hl : es.length = l.length := by rw [← hes]; simp
    refine ⟨A, cap, by rw [hl], by omega, hmax, fun hne => hA (by intro e; rw [e] at hl; exact hne (List.length_eq_zero_iff.1 hl.symm)), fun a ha i hi => ⟨?_, ?_⟩⟩
    · have g := (hc a ha i 0 (by omega) (by decide)).2
      have r := hr i 0 (by omega) (by rw [hsz _ (List.getElem_mem _)]; decide)
      have e1 : es[i][0]'(by rw [hsz _ (List.getElem_mem _)]; decide) = D.raw (.string l[i].name) := by
        subst hes
        simp
      rw [e1] at r
      have e2 : u i 0 = .string l[i].name := by
        generalize hu : u i 0 = x at r
        cases r
        rfl
      rw [← e2]; exact g
    · have g := (hc a ha i 1 (by omega) (by decide)).2
      have r := hr i 1 (by omega) (by rw [hsz _ (List.getElem_mem _)]; decide)
      have e1 : es[i][1]'(by rw [hsz _ (List.getElem_mem _)]; decide) = D.raw (.int .i64 l[i].par) := by
        subst hes
        simp
      rw [e1] at r
      have e2 : u i 1 = .int .i64 l[i].par := by
        generalize hu : u i 1 = x at r
        cases r
        rfl
      rw [← e2]; exact g
theorem line_c (t : Ty) (ht : t.nodes.length ≤ 1000000) (a : Int) (h0 : 0 ≤ a) (ha : a < t.nodes.length) (hp : ∀ j, j < t.nodes.length → (t.nd j).par < j) (tok : Nat → Bool) (nt : Nat) : DCall Tryz.prog 225 [t.av, I a] tok nt (.d (ints (upI t.pars a).reverse)) tok nt := by
  intro box nb
  refine ⟨Enters.mk Tryz.func225 rfl (by kernel_rfl), fun G w vals hm hr => ?_⟩
  obtain ⟨hlen, hrv⟩ := hr
  match vals, hlen with
  | [v, x], _ =>
    have h0 := hrv 0 (by simp) (by simp)
    have h1 := hrv 1 (by simp) (by simp)
    simp only [List.getElem_cons_zero, List.getElem_cons_succ] at h0 h1
    cases h1 with
    | d h1 =>
    cases h1 with
    | raw h1 =>
    cases h0 with
    | @agg _ vs hl h2 h3 =>
      match vs, hl with
      | [v1, v2], _ =>
        have h4 := h2 0 (by simp) (by simp)
        simp only [List.getElem_cons_zero] at h4
        cases h4 with
        | d h4 =>
          obtain ⟨A, cap, rfl, hcap, hmax, hA, hc⟩ := rvd_pars h4
          have e : t.nodes ≠ [] := by intro e; rw [e] at ha; simp at ha; omega
          obtain ⟨a1, rfl⟩ := hA e
          have hp0 : 0 < t.nodes.length := List.length_pos_iff.2 e
          have hc' := hc a1 rfl
          have hs : a1.spot = none := by
            cases hsp : a1.spot with
            | none => rfl
            | some q =>
              exfalso
              have := (hc' 0 hp0).1
              simp only [World.cell?, Addr.add, hsp, Option.isSome_some, ↓reduceIte] at this
              split at this <;> simp at this
          obtain ⟨b, off, sp⟩ := a1
          simp only at hs
          subst hs
          have hcc : ∀ j, j < t.nodes.length → w.cell? ⟨b, off + j * 4 + 1, none⟩ = some (.int .i64 (t.pars.getD j 0)) := fun j hj => by
            have h1 := (hc' j hj).2
            rw [pars_getD t hj, nd_at hj]
            unfold Addr.add at h1
            split at h1
            · rename_i e; omega
            · rw [show off + j * 4 + 1 = off + (j * 4 + 1) by omega]; exact h1
          have hbw : b < w.heap.size := lt_of_cell (hcc 0 hp0)
          refine (YtfgcpmeadeehhaaGreat.line.any b off t.nodes.length cap v2 a t.pars w (by simp) ht (by omega) (fun j hj => by rw [pars_getD t hj]; exact hp j hj) hbw hcc).mono ?_
          rintro e w' ⟨v, rfl, hown, hb⟩
          refine ⟨v, _, _, G, rfl, ⟨rfl, rfl⟩, rfl, relM_below hm hb, .d (rvd_owns hm (by rw [List.length_reverse]; exact hown)), le_below hm hb, fun k hk => ⟨hk, rfl⟩⟩
end Go.AM
namespace Go.AM
open Go Go.Proofs
theorem Ty.Fit.hM {t : Ty} (h : t.Fit) (i : Nat) : (t.nd i).own.length ≤ 1000 := by
  by_cases hi : i < t.nodes.length
  · rw [nd_at hi]; exact (h.a _ (List.getElem_mem hi)).1
  · simp [Ty.nd, List.getElem?_eq_none (Nat.le_of_not_lt hi)]
    exact Nat.zero_le _
theorem given1_c (t : Ty) (n : Int) (box : Nat → Option (List (List AV))) (nb k : Nat) (tok : Nat → Bool) (nt : Nat) (h1 : box k = some [[.d (nts t.nodes), .d (ets t.edges)]]) :
    ACalls Tryz.prog 224 [I n, .ptr k 0 0] ⟨box, nb, tok, nt⟩ fun v m => v = B (!insB t n) ∧ m = ⟨box, nb, tok, nt⟩ := by
  by_cases h0 : n < 0
  · rw [show insB t n = false by simp only [insB, decide_eq_false_iff_not]; omega]
    refine sB Tryz.func224 Tryz.ntmps224 ?_
    intro hbox htok
    simp only at hbox htok
    apply AL.start
    have k1n := key_lt hbox h1
    try (simp [lb_out k1n, h1, h0])
    repeat (refine sR ?_; simp [lb_out k1n, h1, h0])
    refine sT ?_
    try simp only [AU]
    refine ⟨by simp, sF hbox htok (fun _ h => h) (Nat.le_refl _) ?_⟩
    simp [packA]
  · by_cases h2 : (t.nodes.length : Int) ≤ n
    · rw [show insB t n = false by simp only [insB, decide_eq_false_iff_not]; omega]
      refine sB Tryz.func224 Tryz.ntmps224 ?_
      intro hbox htok
      simp only at hbox htok
      apply AL.start
      have k1n := key_lt hbox h1
      try (simp [lb_out k1n, h1, h0, h2])
      repeat (refine sR ?_; simp [lb_out k1n, h1, h0, h2])
      refine sT ?_
      try simp only [AU]
      refine ⟨by simp, sF hbox htok (fun _ h => h) (Nat.le_refl _) ?_⟩
      simp [packA]
    · rw [show insB t n = true by simp only [insB, decide_eq_true_eq]; omega]
      refine sB Tryz.func224 Tryz.ntmps224 ?_
      intro hbox htok
      simp only at hbox htok
      apply AL.start
      have k1n := key_lt hbox h1
      try (simp [lb_out k1n, h1, h0, h2])
      repeat (refine sR ?_; simp [lb_out k1n, h1, h0, h2])
      refine sT ?_
      try simp only [AU]
      refine ⟨by simp, sF hbox htok (fun _ h => h) (Nat.le_refl _) ?_⟩
      simp [packA]
def givE (t : Ty) (l : List Int) : Int := if tyE t = 0 then (if anyB (fun a => !insB t a) l = true then 6 else 0) else tyE t
theorem given_c (t : Ty) (ht : t.Fit) (l : List Int) (hl : l.length ≤ 1000000) (tok : Nat → Bool) (nt : Nat) : DCall Tryz.prog 173 [t.av, .d (ints l)] tok nt (I (givE t l)) tok nt := by
  intro box nb
  have h1 := valid_c4 t ht ht.hM
  obtain ⟨N, hN⟩ : ∃ N, givE t l = N := ⟨_, rfl⟩
  rw [hN]
  unfold givE at hN
  generalize tyE t = E at *
  generalize tyN t = Z at *
  refine sB Tryz.func173 Tryz.ntmps173 ?_
  intro hbox htok
  simp only at hbox htok
  apply AL.start
  try (simp)
  repeat (refine sR ?_; simp)
  refine Stop.of_d (h1 _ _) ?_
  simp
  try (simp)
  repeat (refine sR ?_; simp)
  by_cases e1 : E = 0
  · rw [if_pos e1] at hN
    obtain ⟨p, hpp⟩ : ∃ p : Int → Bool, (fun a => !insB t a) = p := ⟨_, rfl⟩
    have h2 := fun y box nb k hbk => given1_c t y box nb k tok nt hbk
    have hpy : ∀ y : Int, (!insB t y) = p y := fun y => by rw [← hpp]
    simp only [hpy] at h2
    rw [hpp] at hN
    refine sC ?_
    simp [e1]
    try (simp)
    repeat (refine sR ?_; simp)
    refine Stop.of_b (containsFunc_c l 224 [.ptr (nb + 2) 0 0] p hl _ _ _ _ (fun c hc => by rw [List.mem_singleton.1 hc]; simp [lb_at]) (fun y hy box' nb' he => h2 y box' nb' _ (he _ _ (by simp [lb_at])))) ?_
    simp
    cases e2 : anyB p l
    · rw [e2, if_neg (by simp)] at hN
      try (simp)
      repeat (refine sR ?_; simp)
      refine sC ?_
      simp
      try (simp)
      repeat (refine sR ?_; simp)
      refine sT ?_
      try simp only [AU]
      refine ⟨by simp, sF hbox htok (fun _ h => h) (Nat.le_refl _) ?_⟩
      simp [packA, ← hN]
    · rw [e2, if_pos rfl] at hN
      try (simp)
      repeat (refine sR ?_; simp)
      refine sC ?_
      simp
      try (simp)
      repeat (refine sR ?_; simp)
      refine sT ?_
      try simp only [AU]
      refine ⟨by simp, sF hbox htok (fun _ h => h) (Nat.le_refl _) ?_⟩
      simp [packA, ← hN]
  · rw [if_neg e1] at hN
    have b1 : (E != 0) = true := by simp [e1]
    refine sC ?_
    simp [b1]
    try (simp)
    repeat (refine sR ?_; simp)
    refine sT ?_
    try simp only [AU]
    refine ⟨by simp, sF hbox htok (fun _ h => h) (Nat.le_refl _) ?_⟩
    simp [packA, ← hN]
def isB (t : Ty) (a b : Int) : Bool := decide (b ∈ upI t.pars a)
theorem is_c (t : Ty) (ht : t.Fit) (a b : Int) (h0 : 0 ≤ a) (ha : a < t.nodes.length) (hp : ∀ j, j < t.nodes.length → (t.nd j).par < j) (tok : Nat → Bool) (nt : Nat) : DCall Tryz.prog 174 [t.av, I a, I b] tok nt (B (isB t a b)) tok nt := by
  intro box nb
  have hc := line_c t (by have := ht.n; omega) a h0 ha hp
  have hlen := upI_len t.pars a
  have htn := ht.n
  obtain ⟨N, hN⟩ : ∃ N, isB t a b = N := ⟨_, rfl⟩
  rw [hN]
  unfold isB at hN
  have hN2 : decide (b ∈ (upI t.pars a).reverse) = N := by rw [← hN]; simp
  have hl2 : (upI t.pars a).reverse.length ≤ 1000000 := by rw [List.length_reverse]; omega
  generalize (upI t.pars a).reverse = L at *
  have hk := contains_c L b hl2
  rw [hN2] at hk
  refine sB Tryz.func174 Tryz.ntmps174 ?_
  intro hbox htok
  simp only at hbox htok
  apply AL.start
  try (simp)
  repeat (refine sR ?_; simp)
  refine Stop.of_d (hc _ _) ?_
  simp
  try (simp)
  repeat (refine sR ?_; simp)
  refine Stop.of_d (hk _ _) ?_
  simp
  try (simp)
  repeat (refine sR ?_; simp)
  refine sT ?_
  try simp only [AU]
  refine ⟨by simp, sF hbox htok (fun _ h => h) (Nat.le_refl _) ?_⟩
  simp [packA]
theorem tyE_par {t : Ty} (h : tyE t = 0) : ∀ j, j < t.nodes.length → (t.nd j).par < j := by
  unfold tyE at h
  split at h
  · cases h
  · split at h
    · cases h
    · split at h
      · cases h
      · split at h
        · rename_i h1
          exact absurd h h1
        · rename_i h1
          exact fun j hj => nodE_par (firstE_allZ _ (Decidable.not_not.1 h1) j hj)
def fitB (t : Ty) (e a b : Int) : Bool :=
  if givE t [a, b] = 0 then (if 0 ≤ e then (if e < t.edges.length then (if isB t a (t.ed e.toNat).fr = true then isB t b (t.ed e.toNat).to else false) else false) else false) else false
theorem givE_in {t : Ty} {l : List Int} (h : givE t l = 0) : tyE t = 0 ∧ ∀ a ∈ l, 0 ≤ a ∧ a < t.nodes.length := by
  unfold givE at h
  split at h
  · rename_i h1
    split at h
    · cases h
    · rename_i h2
      refine ⟨h1, fun a ha => ?_⟩
      simp only [anyB, List.any_eq_true, not_exists, not_and] at h2
      have := h2 a ha
      simpa [insB] using this
  · rename_i h1
    exact absurd h h1
theorem fits_c4 (t : Ty) (ht : t.Fit) (e a b : Int) (tok : Nat → Bool) (nt : Nat) : DCall Tryz.prog 112 [t.av, I e, I a, I b] tok nt (B (fitB t e a b)) tok nt := by
  intro box nb
  have h1 := given_c t ht [a, b] (by simp)
  have hin := @givE_in t [a, b]
  obtain ⟨N, hN⟩ : ∃ N, fitB t e a b = N := ⟨_, rfl⟩
  rw [hN]
  unfold fitB at hN
  generalize givE t [a, b] = E at *
  refine sB Tryz.func112 Tryz.ntmps112 ?_
  intro hbox htok
  simp only at hbox htok
  apply AL.start
  try (simp)
  repeat (refine sR ?_; simp)
  refine ⟨rfl, ?_⟩
  refine Stop.data ?_
  refine Stop.of_d (h1 _ _) ?_
  simp
  by_cases e1 : E = 0
  · obtain ⟨htE, hin⟩ := hin e1
    have ha := hin a (by simp)
    have hb := hin b (by simp)
    rw [if_pos e1] at hN
    by_cases e2 : 0 ≤ e
    · have e2' : ¬ e < 0 := by omega
      rw [if_pos e2] at hN
      by_cases e3 : e < t.edges.length
      · have e3' : ¬ (t.edges.length : Int) ≤ e := by omega
        rw [if_pos e3] at hN
        obtain ⟨k, rfl⟩ := Int.eq_ofNat_of_zero_le e2
        have hk : k < t.edges.length := by omega
        rw [Int.toNat_natCast, ed_at hk] at hN
        have c1 := is_c t ht a t.edges[k].fr ha.1 ha.2 (tyE_par htE)
        have c2 := is_c t ht b t.edges[k].to hb.1 hb.2 (tyE_par htE)
        try (simp [e1, e2', e3', hk])
        repeat (refine sR ?_; simp [e1, e2', e3', hk])
        refine sC ?_
        simp [e1, e2', e3', hk]
        try (simp [hk])
        repeat (refine sR ?_; simp [hk])
        refine Stop.of_d (c1 _ _) ?_
        simp
        cases f1 : isB t a t.edges[k].fr
        · rw [f1, if_neg (by simp)] at hN
          try (simp)
          repeat (refine sR ?_; simp)
          refine sT ?_
          try simp only [AU]
          refine ⟨by simp, sF hbox htok (fun _ h => h) (Nat.le_refl _) ?_⟩
          simp [packA, ← hN]
        · rw [f1, if_pos rfl] at hN
          try (simp [hk])
          repeat (refine sR ?_; simp [hk])
          refine Stop.of_d (c2 _ _) ?_
          simp
          try (simp)
          repeat (refine sR ?_; simp)
          refine sT ?_
          try simp only [AU]
          refine ⟨by simp, sF hbox htok (fun _ h => h) (Nat.le_refl _) ?_⟩
          simp [packA, ← hN]
      · have e3' : (t.edges.length : Int) ≤ e := by omega
        rw [if_neg e3] at hN
        try (simp [e1, e2', e3'])
        repeat (refine sR ?_; simp [e1, e2', e3'])
        refine sC ?_
        simp [e1, e2', e3']
        try (simp)
        repeat (refine sR ?_; simp)
        refine sT ?_
        try simp only [AU]
        refine ⟨by simp, sF hbox htok (fun _ h => h) (Nat.le_refl _) ?_⟩
        simp [packA, ← hN]
    · have e2' : e < 0 := by omega
      rw [if_neg e2] at hN
      try (simp [e1, e2'])
      repeat (refine sR ?_; simp [e1, e2'])
      refine sC ?_
      simp [e1, e2']
      try (simp)
      repeat (refine sR ?_; simp)
      refine sT ?_
      try simp only [AU]
      refine ⟨by simp, sF hbox htok (fun _ h => h) (Nat.le_refl _) ?_⟩
      simp [packA, ← hN]
  · rw [if_neg e1] at hN
    have b1 : (E != 0) = true := by simp [e1]
    try (simp [b1])
    repeat (refine sR ?_; simp [b1])
    refine sC ?_
    simp [b1]
    try (simp)
    repeat (refine sR ?_; simp)
    refine sT ?_
    try simp only [AU]
    refine ⟨by simp, sF hbox htok (fun _ h => h) (Nat.le_refl _) ?_⟩
    simp [packA, ← hN]
end Go.AM
namespace Go.AM
open Go Go.Proofs
def stLf (c : Cd) (r : Ru) (nb : Nat) (box : Nat → Option (List (List AV))) (x : Acc) : AState :=
  ⟨tl [(7, I x.i), (6, .ptr (nb + 6) 0 0), (4, .ptr (nb + 4) 0 0), (3, .ptr (nb + 3) 0 0), (2, .ptr (nb + 2) 0 0)],
    lb nb box [(6, [[I c.kind, .osl 9 (((c.kids.take x.i).map fun k => (k.lft r.sp).1).map Cd.cells) x.own, nilS, nilS, nilS, nilS, nilS, z0i, nilS]]), (4, [[z0i, nilS, nilS, nilS, nilS, nilS, nilS, z0i, nilS]]), (3, [c.row]), (2, [r.row])], x.tok, x.nt⟩
set_option maxRecDepth 100000 in
theorem left34_c (hB : BackOK) : ∀ (n : Nat) (c : Cd), SizeOf.sizeOf c < n → c.Fit → ∀ r : Ru, SpOk r.sp → c.ovr r.rg = 0 → ∀ (tok : Nat → Bool) (nt : Nat), DCall Tryz.prog 44 [r.av, c.av] tok nt (.tup [(c.lft r.sp).1.av, I (c.lft r.sp).2]) tok nt
  | 0, c, hn, _, _, _, _, _, _ => absurd hn (Nat.not_lt_zero _)
  | n + 1, c, hn, hf, r, hs, hv, tok, nt => by
    have ih := fun x (hx : x ∈ c.kids) => left34_c hB n x (by have := Cd.kid_lt hx; omega) (hf.kid x hx)
    have hkl := hf.kids
    obtain ⟨h0, h1, h2⟩ := Cd.ovr_zero hv
    by_cases k5 : c.kind = 5
    · obtain ⟨hm, x, hkx⟩ := ovr_ex hv k5
      have hi : c.inn r.rg = c.g := if_pos k5
      rw [hi] at h2
      exact exists34_c hB c x hkx k5 r hs hm (fun hd hb => ih x (by rw [hkx]; simp) _ (Sp.inn_ok hs hm hd hb) (h2 x (by rw [hkx]; simp))) tok nt
    · intro box nb
      have hi : c.inn r.rg = r.rg := if_neg k5
      rw [hi] at h2
      have b5 : (c.kind != 5) = true := by simp [k5]
      have hL : c.lft r.sp = (if (kidsE (fun x => Cd.lft x r.sp) c.kids).2 ≠ 0 then (cdOf 0 [], (kidsE (fun x => Cd.lft x r.sp) c.kids).2) else (cdOf c.kind (kidsE (fun x => Cd.lft x r.sp) c.kids).1, 0)) := by rw [c.lft_eq]; exact if_pos k5
      have hkl2 := hkl
      rw [kidN_eq] at hkl2
      refine sB Tryz.func44 Tryz.ntmps44 ?_
      intro hbox htok
      simp only at hbox htok
      apply AL.start
      try (simp [b5])
      repeat (refine sR ?_; simp [b5])
      refine sC ?_
      simp
      try (simp)
      repeat (refine sR ?_; simp)
      refine sN ?_
      refine AL.loopT (stLf c r nb box) (fun x => x.i ≤ c.kids.length ∧ (∀ y ∈ c.kids.take x.i, (y.lft r.sp).2 = 0) ∧ TK tok nt x.tok x.nt [x.own]) (fun x => c.kids.length - x.i) ⟨0, .full, tok, nt⟩ ⟨Nat.zero_le _, by simp, (TK.start htok).full⟩ (Weaks.mk (Nat.le_refl _) rfl (by simp [ToL, lk]) (by simp [BoxL, lk])) ?_
      rintro ⟨i, own, tok', nt'⟩ S ⟨hi, hok, htk⟩ hS
      simp only [stLf] at hS hi htk hok
      subst hS
      have hw := sW (i := i) (by omega)
      obtain ⟨K, hK⟩ : ∃ K, (c.kids.take i).map (fun k => (k.lft r.sp).1) = K := ⟨_, rfl⟩
      have hKl : K.length ≤ i := by rw [← hK]; simp; omega
      rw [hK]
      try (simp)
      repeat (refine sR ?_; simp)
      refine sC ?_
      simp
      refine ⟨fun hlt => ?_, fun hge => ?_⟩
      · have hmem : c.kids[i] ∈ c.kids := List.getElem_mem hlt
        have ihx := ih _ hmem r hs (h2 _ hmem)
        have hstep : (c.kids.take (i + 1)).map (fun k => (k.lft r.sp).1) = K ++ [(c.kids[i].lft r.sp).1] := by rw [← hK, ← List.take_append_getElem hlt, List.map_append]; rfl
        have hall : (c.kids[i].lft r.sp).2 = 0 → ∀ y ∈ c.kids.take (i + 1), (y.lft r.sp).2 = 0 := fun h y hy => by
          rw [← List.take_append_getElem hlt] at hy
          rcases List.mem_append.1 hy with hy | hy
          · exact hok y hy
          · rw [List.mem_singleton.1 hy]; exact h
        have hbad := fun h => kidsE_at (f := fun x => Cd.lft x r.sp) hlt hok h
        try (simp [hlt, Cd.cells_eq])
        repeat (refine sR ?_; simp [hlt, Cd.cells_eq])
        refine Stop.of_d (ihx _ _) ?_
        simp
        generalize c.kids[i].lft r.sp = R at *
        try (simp)
        repeat (refine sR ?_; simp)
        by_cases e0 : R.2 = 0
        · simp only [e0]
          refine sC ?_
          simp
          try (simp)
          repeat (refine sR ?_; simp)
          refine ⟨⟨by omega, htk.live⟩, ?_⟩
          try (simp [hw])
          repeat (refine sR ?_; simp [hw])
          refine sE ?_
          exact ⟨⟨i + 1, _, _, _⟩, ⟨hlt, hall e0, htk.app⟩, by simp only; omega, Weaks.mk htk.app.le rfl (by simp [ToL, lk]) (by simp [BoxL, lk, hstep, Cd.cells_eq])⟩
        · have b0 : (R.2 != 0) = true := by simp [e0]
          rw [hL, hbad e0, if_pos e0, zav]
          simp only [b0]
          refine sC ?_
          simp
          try (simp)
          repeat (refine sR ?_; simp)
          refine sT ?_
          try simp only [AU]
          refine ⟨by simp, sF hbox htok htk.old htk.le ?_⟩
          simp [packA, ]
      · refine sX ?_
        simp only [AU, ↓reduceIte]
        have : i = c.kids.length := by omega
        subst this
        rw [List.take_length] at hok
        rw [List.take_length] at hK
        rw [hL, kidsE_of hok, if_neg (by simp), hK]
        have hav : (cdOf c.kind K).av = .agg [I c.kind, .d (conds K), .d (ints []), .d (ints []), .d (ints []), .d (AM.edges []), .d (slots []), I 0, .d (tests [])] := rfl
        rw [hav]
        try (simp)
        repeat (refine sR ?_; simp)
        refine sT ?_
        try simp only [AU]
        refine ⟨by simp, sF hbox htok htk.old htk.le ?_⟩
        simp [packA, ints, AM.edges, slots, tests]
set_option maxRecDepth 100000 in
theorem left15_c (hB : BackOK) (r : Ru) (c : Cd) (hr : r.Fit) (hf : c.Fit) (tok : Nat → Bool) (nt : Nat) : DCall Tryz.prog 15 [r.av, c.av] tok nt (.tup [(leftR r c).1.av, I (leftR r c).2]) tok nt := by
  intro box nb
  have h1 := structural34_c r hr
  have h2 := validR_c r.rg c hr.rg hf
  have h3 := fun hs hv => left34_c hB _ c (Nat.lt_succ_self _) hf r hs hv
  refine sB Tryz.func15 Tryz.ntmps15 ?_
  intro hbox htok
  simp only at hbox htok
  apply AL.start
  try (simp)
  repeat (refine sR ?_; simp)
  refine Stop.of_d (h1 _ _) ?_
  simp
  try (simp)
  repeat (refine sR ?_; simp)
  by_cases e1 : strR r = 0
  · have hs := (strR_zero e1).1
    rw [show leftR r c = movR r.sp c by rw [leftR, if_neg (by simp [e1])]]
    simp only [e1]
    refine sC ?_
    simp
    try (simp)
    repeat (refine sR ?_; simp)
    refine Stop.of_d (h2 _ _) ?_
    simp
    try (simp)
    repeat (refine sR ?_; simp)
    by_cases e2 : validC r.rg c = 0
    · have hv := (validC_zero e2).2
      have e2' : validC r.sp.r c = 0 := e2
      have hok := lft_ok _ c (Nat.lt_succ_self _) hf r.sp hs hv
      simp only [e2]
      refine sC ?_
      simp
      try (simp)
      repeat (refine sR ?_; simp)
      refine Stop.of_d (h3 hs hv _ _) ?_
      simp
      obtain ⟨R, hR⟩ : ∃ R, c.lft r.sp = R := ⟨_, rfl⟩
      rw [hR] at hok ⊢
      try (simp)
      repeat (refine sR ?_; simp)
      by_cases e3 : R.2 = 0
      · have ho := hok e3
        have h4 := small34_c R.1 ho.fit.big (ovr_shs _ _ (Nat.lt_succ_self _) _ ho.ovr)
        have hvc : validC r.sp.l R.1 = smallC R.1 := by rw [validC, if_neg (by simp [hs.k.va]), if_neg (by simp [ho.ovr])]
        rw [show movR r.sp c = (if smallC R.1 ≠ 0 then cdOf 0 [] else R.1, smallC R.1) by
          rw [movR, if_neg (by simp [e2']), hR, if_neg (by simp [e3]), hvc]
          by_cases e4 : smallC R.1 = 0 <;> simp [e4]]
        generalize (if smallC R.1 ≠ 0 then cdOf 0 [] else R.1) = Q at *
        simp only [e3]
        refine sC ?_
        simp
        try (simp)
        repeat (refine sR ?_; simp)
        refine Stop.of_d (h4 _ _) ?_
        simp
        try (simp)
        repeat (refine sR ?_; simp)
        refine sT ?_
        try simp only [AU]
        refine ⟨by simp, sF hbox htok (fun _ h => h) (Nat.le_refl _) ?_⟩
        simp [packA]
      · rw [show movR r.sp c = (cdOf 0 [], R.2) by rw [movR, if_neg (by simp [e2']), hR, if_pos e3], zav]
        have b3 : (R.2 != 0) = true := by simp [e3]
        simp only [b3]
        refine sC ?_
        simp
        try (simp)
        repeat (refine sR ?_; simp)
        refine sT ?_
        try simp only [AU]
        refine ⟨by simp, sF hbox htok (fun _ h => h) (Nat.le_refl _) ?_⟩
        simp [packA]
    · have e2' : ¬ validC r.sp.r c = 0 := e2
      rw [show movR r.sp c = (cdOf 0 [], validC r.rg c) by rw [movR, if_pos e2']; rfl, zav]
      have b2 : (validC r.rg c != 0) = true := by simp [e2]
      simp only [b2]
      refine sC ?_
      simp
      try (simp)
      repeat (refine sR ?_; simp)
      refine sT ?_
      try simp only [AU]
      refine ⟨by simp, sF hbox htok (fun _ h => h) (Nat.le_refl _) ?_⟩
      simp [packA]
  · rw [show leftR r c = (cdOf 0 [], strR r) by rw [leftR, if_pos e1], zav]
    have b1 : (strR r != 0) = true := by simp [e1]
    simp only [b1]
    refine sC ?_
    simp
    try (simp)
    repeat (refine sR ?_; simp)
    refine sT ?_
    try simp only [AU]
    refine ⟨by simp, sF hbox htok (fun _ h => h) (Nat.le_refl _) ?_⟩
    simp [packA]
theorem strR_ru {s : Sp} (h : SpOk s) : strR s.ru = 0 := by
  unfold strR
  rw [if_neg (by simp [Sp.ru, h.k.va]), if_neg (by simp [Sp.ru, h.i.vm.vb]), if_neg (by simp [Sp.ru, h.k.v]), if_neg (by simp [Sp.ru, h.i.v]), if_neg (by simp [Sp.ru, h.i.inj]), if_pos (by simp [Sp.ru, Ru.plainL, Ru.plainR])]
theorem Sp.ru_fit {s : Sp} (h : SpOk s) : s.ru.Fit := by
  obtain ⟨a, b, c, d⟩ := h.fit
  exact ⟨a, b, c, d, by rw [bigN_eq]; simp [Sp.ru], by rw [bigN_eq]; simp [Sp.ru], by rw [bigN_eq]; simp [Sp.ru], by rw [bigN_eq]; simp [Sp.ru]⟩
set_option maxRecDepth 100000 in
theorem right22_c (hB : BackOK) (r : Ru) (c : Cd) (hr : r.Fit) (hf : c.Fit) (tok : Nat → Bool) (nt : Nat) : DCall Tryz.prog 22 [r.av, c.av] tok nt (.tup [(rightR r c).1.av, I (rightR r c).2]) tok nt := by
  intro box nb
  have h1 := structural34_c r hr
  have h2 := inverse34_c r
  have h3 := fun hs => left15_c hB r.sp.inv.ru c (Sp.ru_fit hs) hf
  refine sB Tryz.func22 Tryz.ntmps22 ?_
  intro hbox htok
  simp only at hbox htok
  apply AL.start
  try (simp)
  repeat (refine sR ?_; simp)
  refine Stop.of_d (h1 _ _) ?_
  simp
  try (simp)
  repeat (refine sR ?_; simp)
  by_cases e1 : strR r = 0
  · have hs := (strR_zero e1).1
    have hsi := Sp.inv_ok hs
    have h3 := h3 hsi
    rw [show leftR r.sp.inv.ru c = rightR r c by rw [leftR, if_neg (by simp [strR_ru hsi]), rightR, if_neg (by simp [e1])]; rfl] at h3
    simp only [e1]
    refine sC ?_
    simp
    try (simp)
    repeat (refine sR ?_; simp)
    refine Stop.of_d (h2 hs _ _) ?_
    simp
    try (simp)
    repeat (refine sR ?_; simp)
    refine Stop.of_d (h3 _ _) ?_
    simp
    try (simp)
    repeat (refine sR ?_; simp)
    refine sT ?_
    try simp only [AU]
    refine ⟨by simp, sF hbox htok (fun _ h => h) (Nat.le_refl _) ?_⟩
    simp [packA]
  · rw [show rightR r c = (cdOf 0 [], strR r) by rw [rightR, if_pos e1], zav]
    have b1 : (strR r != 0) = true := by simp [e1]
    simp only [b1]
    refine sC ?_
    simp
    try (simp)
    repeat (refine sR ?_; simp)
    refine sT ?_
    try simp only [AU]
    refine ⟨by simp, sF hbox htok (fun _ h => h) (Nat.le_refl _) ?_⟩
    simp [packA]
end Go.AM
