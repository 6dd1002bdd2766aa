/-
 Parts of the proof, as merged from many texts: a machine over data, what the functions compute, plain laws.
-/
import Derived.Test.YtfgcpmeadeehhaaGreatPTB10
set_option linter.unusedSimpArgs false
set_option linter.unusedVariables false
namespace Go.AM
open Go Go.Proofs
set_option maxRecDepth 100000 in
theorem made34_c (x : Dx) (hx : x.U8) (tok : Tks) (nt : Nat) : DCall Tryz.prog 75 [x.av] tok nt (Sp.ru x.sp).av tok nt := by
 intro box nb
 have o := Dx.ok hx
 have hon := o.n
 have hoe := o.e
 have gf : x.g.Fit := ⟨by omega, by omega⟩
 have kl := o.k.len
 have kf : x.k.Fit := ⟨by omega, by omega⟩
 have ef : (exG x.g x.k).Fit := ⟨by simp [exG]; omega, by simp [exG]; omega⟩
 have h1 := made25_c x.dr hx.dr
 have h2 := made07_c x.g gf o.v x.keep
 have h3 := extract07_c x.g x.k gf kf o.k
 have h4 := grown10_c (exG x.g x.k) ef x.cs hx.cs (by simp [Dx.cs]; omega) (by simp [Dx.cs]) rfl
 have h5 := of34_c x.g x.right x.k (idM (exG x.g x.k))
 have hml := hx.ml
 have hnl := hx.nl
 have hel := hx.el
 have m1 : (min (x.left.nodes.length : Int) 3).toNat = min x.left.nodes.length 3 := by omega
 have m2 : (min (x.left.edges.length : Int) 3).toNat = min x.left.edges.length 3 := by omega
 have eav : x.dr.av = .agg [.d (.sl 1 (List.take (min x.left.nodes.length 3) (x.left.nodes.map fun n => [u8 n]))), .d (.sl 3 (List.take (min x.left.edges.length 3) (x.left.edges.map fun e => [u8 e.1, u8 e.2.1, u8 e.2.2])))] := by simp [Dx.dr, List.map_take]
 have eg : madeG x.dr = x.g := rfl
 rw [eav, eg] at h1
 have esp : (⟨x.g, x.right, x.k, idM (exG x.g x.k)⟩ : Sp) = x.sp := rfl
 rw [esp] at h5
 have m3 : (min (x.more.length : Int) 6).toNat = min x.more.length 6 := by omega
 have ecs : bytes x.cs = .sl 1 ([D.raw (.int .u8 255)] :: List.take (min x.more.length 6) (x.more.map fun n => [u8 n])) := by simp [Dx.cs, bytes, List.map_take]
 have er : gwG (exG x.g x.k) x.cs = x.right := rfl
 rw [ecs, er] at h4
 have ek : mad7 x.g x.keep = x.k := rfl
 rw [ek] at h2
 refine sB Tryz.func75 Tryz.ntmps75 ?_
 intro hbox htok
 simp only at hbox htok
 apply AL.start
 try (simp)
 repeat (refine sR ?_; simp)
 simp only [m1, m2]
 refine ⟨by omega, by omega, ?_⟩
 try (simp)
 repeat (refine sR ?_; simp)
 refine Stop.of_d (h1 _ _) ?_
 simp
 try (simp)
 repeat (refine sR ?_; simp)
 refine Stop.of_d (h2 _ _) ?_
 simp
 try (simp)
 repeat (refine sR ?_; simp)
 refine Stop.of_d (h3 _ _) ?_
 simp
 try (simp)
 repeat (refine sR ?_; simp)
 refine ⟨by omega, by omega, ?_⟩
 simp only [m3]
 refine Stop.data ?_
 refine Stop.of_d (h4 _ _) ?_
 simp
 try (simp)
 repeat (refine sR ?_; simp)
 refine Stop.of_d (h5 _ _) ?_
 simp
 try (simp)
 repeat (refine sR ?_; simp)
 have htk : TK tok nt (upd tok nt true) (nt + 1) [.tok nt] := ((TK.start htok).full).app
 refine sT ?_
 try simp only [AU]
 refine ⟨by simp, sF hbox htok htk.old htk.le ?_⟩
 simp [packA]
end Go.AM
namespace Go.AM
open Go Go.Proofs
structure CodeS (a b c : Int) : Prop where
 ra2 : a.tmod 2 = a % 2
 ra3 : a.tmod 3 = a % 3
 rb3 : b.tmod 3 = b % 3
 wb3 : IntKind.i64.wrap (b % 3) = b % 3
 qa8 : IntKind.u8.wrap (a.tdiv 8) = a / 8
 ra8 : (a / 8).tmod 2 = a / 8 % 2
 wa8 : IntKind.i64.wrap (a / 8 % 2) = a / 8 % 2
 qb4 : IntKind.u8.wrap (b.tdiv 4) = b / 4
 wb4 : IntKind.i64.wrap (b / 4) = b / 4
 rb4 : ∀ n : Nat, (b / 4).tmod n = b / 4 % n
 wc : IntKind.i64.wrap c = c
 rc : ∀ n : Nat, c.tmod n = c % n
theorem codeS {a b c : Int} (a0 : 0 ≤ a ∧ a < 256) (b0 : 0 ≤ b ∧ b < 256) (c0 : 0 ≤ c ∧ c < 256) : CodeS a b c := by
 have e : ∀ x k : Int, 0 ≤ x → x.tdiv k = x / k := fun x k h => Int.tdiv_eq_ediv_of_nonneg h
 refine ⟨Int.tmod_eq_emod_of_nonneg a0.1, Int.tmod_eq_emod_of_nonneg a0.1, Int.tmod_eq_emod_of_nonneg b0.1, wrap_in (by omega) (by omega), ?_, Int.tmod_eq_emod_of_nonneg (by omega), wrap_in (by omega) (by omega), ?_, wrap_in (by omega) (by omega), fun n => Int.tmod_eq_emod_of_nonneg (by omega), wrap_in (by omega) (by omega), fun n => Int.tmod_eq_emod_of_nonneg (by omega)⟩
 ·rw [e _ _ a0.1]; exact wrapU8 (by omega) (by omega)
 ·rw [e _ _ b0.1]; exact wrapU8 (by omega) (by omega)
structure AccS where
 i : Nat
 j : Nat
 o1 : Own
 o2 : Own
 tok : Nat → Bool
 nt : Nat
abbrev zRowS : List AV := [.d (.raw (.string ⟨#[]⟩)), nilS, nilS, nilS, I 0, nilS, nilS, nilS, nilS, I 0, nilS, nilS, nilS, nilS, nilS, B false, I 0, nilS, nilS, nilS, nilS, nilS, nilS, I 0, nilS]
def stSc (x : Scn) (nb : Nat) (box : Bxs) (y : AccS) : AState :=
 ⟨tl [(9, I y.i), (8, .ptr (nb + 8) 0 0), (7, .ptr (nb + 7) 0 0), (6, .ptr (nb + 6) 0 0), (4, .ptr (nb + 4) 0 0), (3, .ptr (nb + 3) 0 0), (2, .ptr (nb + 2) 0 0), (1, .ptr (nb + 1) 0 0)],
  lb nb box [(8, [[.d (ints (iota x.r.g.nodes.length)), .d (ints (iota x.r.g.edges.length))]]), (7, [[.osl 1 (rI (scK x.r.g x.more y.j).nodes) y.o1, .osl 3 (rE (scK x.r.g x.more y.j).edges) y.o2]]), (6, [x.r.sp.ru.row]),
   (1, [[.d (.sl 1 (x.r.left.nodes.map fun n => [u8 n])), .d (.sl 3 (x.r.left.edges.map fun e => [u8 e.1, u8 e.2.1, u8 e.2.2])), .d (u64 x.r.keep), .d (bytes x.r.more), .d (bytes x.codes), .d (bytes x.more)]]), (4, [[nilS, nilS]]), (3, [[nilS, nilS]]), (2, [zRowS])], y.tok, y.nt⟩
set_option maxRecDepth 100000 in
theorem scene34_c (x : Scn) (hx : x.U8) (tok : Tks) (nt : Nat) : DCall Tryz.prog 25 [x.av] tok nt (.tup [(Sp.ru x.r.sp).av, x.g.av, (idM x.r.g).av, B (decide (x.codes.length ≤ 12))]) tok nt := by
 intro box nb
 have o := Dx.ok hx.r
 have hon := o.n
 have hoe := o.e
 have gf : x.r.g.Fit := ⟨by omega, by omega⟩
 have h1 := made34_c x.r hx.r
 have h2 := copied_c x.r.g gf
 have h3 := of_c x.r.g gf
 have hml := hx.ml
 have hmu := hx.m
 refine sB Tryz.func25 Tryz.ntmps25 ?_
 intro hbox htok
 simp only at hbox htok
 apply AL.start
 try (simp)
 repeat (refine sR ?_; simp)
 refine Stop.of_d (h1 _ _) ?_
 simp
 try (simp)
 repeat (refine sR ?_; simp)
 refine Stop.of_d (h2 _ _) ?_
 simp
 refine Stop.of_d (h3 _ _) ?_
 simp
 try (simp)
 repeat (refine sR ?_; simp)
 refine sN ?_
 have htk0 : TK tok nt (upd (upd tok nt true) (nt + 1) true) (nt + 2) [.tok nt, .tok (nt + 1)] := ((TK.start htok).full.app.full.app.swap)
 refine AL.loopT (stSc x nb box) (fun y => y.i = 3 * y.j ∧ y.j ≤ scN x.more ∧ TK tok nt y.tok y.nt [y.o1, y.o2]) (fun y => 3 - y.j) ⟨0, 0, .tok nt, .tok (nt + 1), _, _⟩ ⟨rfl, Nat.zero_le _, htk0⟩ (Weaks.mk htk0.le rfl (by simp [ToL, lk]) (by simp [BoxL, lk, scK])) ?_
 clear htk0
 rintro ⟨i, j, o1, o2, tok1, nt1⟩ S ⟨hij, hj, htk⟩ hS
 simp only [stSc] at hS hij hj htk
 subst hS
 have hsn : scN x.more = min 3 (x.more.length / 3) := rfl
 have w1 := sW (i := i) (by omega)
 have w2 : IntKind.i64.wrap (↑i + 2) = ((i + 2 : Nat) : Int) := by rw [wrap_in (by omega) (by omega)]; rfl
 have w3 : IntKind.i64.wrap (↑i + 3) = ((i + 3 : Nat) : Int) := by rw [wrap_in (by omega) (by omega)]; rfl
 have hw := (scK_gw x.r.g x.more j).len
 by_cases hgo : j < scN x.more
 ·have hl2 : i + 2 < x.more.length := by omega
  have hl1 : i + 1 < x.more.length := by omega
  have hl0 : i < x.more.length := by omega
  have hl2' : (i : Int) + 2 < x.more.length := by omega
  have h9 : (i : Int) < 9 := by omega
  have hl1' : (i : Int) + 1 < x.more.length := by omega
  have p1 : (0 : Int) ≤ (i : Int) + 1 := by omega
  have p2 : (0 : Int) ≤ (i : Int) + 2 := by omega
  have t1 : ((i : Int) + 1).toNat = i + 1 := by omega
  have t2 : ((i : Int) + 2).toNat = i + 2 := by omega
  have g1 : x.more[i + 1]? = some x.more[i + 1] := List.getElem?_eq_getElem hl1
  have g2 : x.more[i + 2]? = some x.more[i + 2] := List.getElem?_eq_getElem hl2
  have hb0 := bytes_at hl0
  have hb1 := bytes_at hl1
  have hb2 := bytes_at hl2
  have hmore : scK x.r.g x.more (j + 1) = scS (scK x.r.g x.more j) x.more[i] x.more[i + 1] x.more[i + 2] := by
   rw [scK]
   congr 1 <;> (rw [List.getD_eq_getElem?_getD, List.getElem?_eq_getElem (by omega)]; simp [hij])
  have a0 := hmu _ (List.getElem_mem hl0)
  have b0 := hmu _ (List.getElem_mem hl1)
  have c0 := hmu _ (List.getElem_mem hl2)
  have C := codeS a0 b0 c0
  obtain ⟨N, M, hNM⟩ : ∃ N M, scK x.r.g x.more j = ⟨N, M⟩ := ⟨_, _, rfl⟩
  obtain ⟨N2, M2, hNM2⟩ : ∃ N2 M2, scK x.r.g x.more (j + 1) = ⟨N2, M2⟩ := ⟨_, _, rfl⟩
  rw [hNM] at hw hmore ⊢
  rw [hNM2] at hmore
  simp only [scS, Gr.mk.injEq] at hmore
  obtain ⟨hN, hE⟩ := hmore
  simp only at hw
  try (simp [hl2', h9, w2])
  repeat (refine sR ?_; simp [hl2', h9, w2])
  refine sC ?_
  simp [hl2', h9]
  by_cases ev : x.more[i] % 2 = 0
  ·rw [if_pos ev] at hN hE
   try (simp [hl0, hb0, C.ra2, ev])
   repeat (refine sR ?_; simp [hl0, hb0, C.ra2, ev])
   refine sC ?_
   simp [C.ra2, ev]
   try (simp [w1, hl1', p1, t1, g1, C.rb3, C.wb3])
   repeat (refine sR ?_; simp [w1, hl1', p1, t1, g1, C.rb3, C.wb3])
   refine ⟨⟨by omega, htk.live⟩, ?_⟩
   have hrI : rI N ++ [[D.raw (.int .i64 (x.more[i + 1] % 3))]] = rI N2 := by rw [hN]; simp [rI]
   rw [← hN] at hE
   have hl : N2.length ≤ N.length + 1 := by rw [hN]; simp
   simp only [hrI]
   have htk2 : TK tok nt (upd (o1.kill tok1) nt1 true) (nt1 + 1) [.tok nt1, o2] := htk.app
   by_cases hn0 : 0 < N2.length
   ·have hn0' : (0 : Int) < N2.length := by omega
    have hnz : ¬ (N2.length : Int) = 0 := by omega
    have hnz2 : ¬ N2 = [] := fun h => by rw [h] at hn0; simp at hn0
    have r4 := C.rb4 N2.length
    have rc := C.rc N2.length
    by_cases ha3 : 0 < x.more[i] % 3
    ·rw [if_pos ⟨hn0, ha3⟩] at hE
     try (simp [hn0', hn0, hnz, hnz2, hl0, hb0, C.ra3, ha3])
     repeat (refine sR ?_; simp [hn0', hn0, hnz, hnz2, hl0, hb0, C.ra3, ha3])
     refine sC ?_
     simp [hn0', hn0, hnz, hnz2, hl0, hb0, C.ra3, ha3]
     try (simp [hl0, hl1', hl2', p1, p2, t1, t2, g1, g2, hb0, w1, w2, C.qa8, C.ra8, C.wa8, C.qb4, C.wb4, r4, C.wc, rc, hnz, hnz2, hn0'])
     repeat (refine sR ?_; simp [hl0, hl1', hl2', p1, p2, t1, t2, g1, g2, hb0, w1, w2, C.qa8, C.ra8, C.wa8, C.qb4, C.wb4, r4, C.wc, rc, hnz, hnz2, hn0'])
     refine ⟨⟨by omega, htk2.swap.live⟩, ?_⟩
     try (simp [w3])
     repeat (refine sR ?_; simp [w3])
     refine sE ?_
     refine ⟨⟨i + 3, j + 1, .tok nt1, .tok (nt1 + 1), upd (o2.kill (upd (o1.kill tok1) nt1 true)) (nt1 + 1) true, nt1 + 1 + 1⟩, ⟨by simp only; omega, by simp only; omega, htk2.swap.app.swap⟩, by simp only; omega, ?_⟩
     simp only [stSc, hNM2]
     exact Weaks.mk htk2.swap.app.swap.le rfl (by simp [ToL, lk, w3]) (by simp [BoxL, lk, hE, rE])
    ·rw [if_neg fun h => ha3 h.2] at hE
     try (simp [hn0', hn0, hnz, hnz2, hl0, hb0, C.ra3, ha3])
     repeat (refine sR ?_; simp [hn0', hn0, hnz, hnz2, hl0, hb0, C.ra3, ha3])
     refine sC ?_
     simp [hn0', hn0, hnz, hnz2, hl0, hb0, C.ra3, ha3]
     try (simp [w3])
     repeat (refine sR ?_; simp [w3])
     refine sE ?_
     refine ⟨⟨i + 3, j + 1, .tok nt1, o2, upd (o1.kill tok1) nt1 true, nt1 + 1⟩, ⟨by simp only; omega, by simp only; omega, htk2⟩, by simp only; omega, ?_⟩
     simp only [stSc, hNM2]
     exact Weaks.mk htk2.le rfl (by simp [ToL, lk, w3]) (by simp [BoxL, lk, hE])
   ·rw [if_neg fun h => hn0 h.1] at hE
    have hz : N2 = [] := List.length_eq_zero_iff.1 (by omega)
    try (simp [hz, hn0])
    repeat (refine sR ?_; simp [hz, hn0])
    refine sC ?_
    simp [hz, hn0]
    try (simp [w3])
    repeat (refine sR ?_; simp [w3])
    refine sE ?_
    refine ⟨⟨i + 3, j + 1, .tok nt1, o2, upd (o1.kill tok1) nt1 true, nt1 + 1⟩, ⟨by simp only; omega, by simp only; omega, htk2⟩, by simp only; omega, ?_⟩
    simp only [stSc, hNM2]
    exact Weaks.mk htk2.le rfl (by simp [ToL, lk, w3]) (by simp [BoxL, lk, hE, hz])
  ·rw [if_neg ev] at hN hE
   try (simp [hl0, hb0, C.ra2, ev])
   repeat (refine sR ?_; simp [hl0, hb0, C.ra2, ev])
   refine sC ?_
   simp [C.ra2, ev]
   rw [← hN] at hE
   have hl : N2.length ≤ N.length + 1 := by rw [hN]; omega
   rw [← hN]
   have htk2 : TK tok nt (tok1) (nt1) [o1, o2] := htk
   by_cases hn0 : 0 < N2.length
   ·have hn0' : (0 : Int) < N2.length := by omega
    have hnz : ¬ (N2.length : Int) = 0 := by omega
    have hnz2 : ¬ N2 = [] := fun h => by rw [h] at hn0; simp at hn0
    have r4 := C.rb4 N2.length
    have rc := C.rc N2.length
    by_cases ha3 : 0 < x.more[i] % 3
    ·rw [if_pos ⟨hn0, ha3⟩] at hE
     try (simp [hn0', hn0, hnz, hnz2, hl0, hb0, C.ra3, ha3])
     repeat (refine sR ?_; simp [hn0', hn0, hnz, hnz2, hl0, hb0, C.ra3, ha3])
     refine sC ?_
     simp [hn0', hn0, hnz, hnz2, hl0, hb0, C.ra3, ha3]
     try (simp [hl0, hl1', hl2', p1, p2, t1, t2, g1, g2, hb0, w1, w2, C.qa8, C.ra8, C.wa8, C.qb4, C.wb4, r4, C.wc, rc, hnz, hnz2, hn0'])
     repeat (refine sR ?_; simp [hl0, hl1', hl2', p1, p2, t1, t2, g1, g2, hb0, w1, w2, C.qa8, C.ra8, C.wa8, C.qb4, C.wb4, r4, C.wc, rc, hnz, hnz2, hn0'])
     refine ⟨⟨by omega, htk2.swap.live⟩, ?_⟩
     try (simp [w3])
     repeat (refine sR ?_; simp [w3])
     refine sE ?_
     refine ⟨⟨i + 3, j + 1, o1, .tok (nt1), upd (o2.kill (tok1)) (nt1) true, nt1 + 1⟩, ⟨by simp only; omega, by simp only; omega, htk2.swap.app.swap⟩, by simp only; omega, ?_⟩
     simp only [stSc, hNM2]
     exact Weaks.mk htk2.swap.app.swap.le rfl (by simp [ToL, lk, w3]) (by simp [BoxL, lk, hE, rE])
    ·rw [if_neg fun h => ha3 h.2] at hE
     try (simp [hn0', hn0, hnz, hnz2, hl0, hb0, C.ra3, ha3])
     repeat (refine sR ?_; simp [hn0', hn0, hnz, hnz2, hl0, hb0, C.ra3, ha3])
     refine sC ?_
     simp [hn0', hn0, hnz, hnz2, hl0, hb0, C.ra3, ha3]
     try (simp [w3])
     repeat (refine sR ?_; simp [w3])
     refine sE ?_
     refine ⟨⟨i + 3, j + 1, o1, o2, tok1, nt1⟩, ⟨by simp only; omega, by simp only; omega, htk2⟩, by simp only; omega, ?_⟩
     simp only [stSc, hNM2]
     exact Weaks.mk htk2.le rfl (by simp [ToL, lk, w3]) (by simp [BoxL, lk, hE])
   ·rw [if_neg fun h => hn0 h.1] at hE
    have hz : N2 = [] := List.length_eq_zero_iff.1 (by omega)
    try (simp [hz, hn0])
    repeat (refine sR ?_; simp [hz, hn0])
    refine sC ?_
    simp [hz, hn0]
    try (simp [w3])
    repeat (refine sR ?_; simp [w3])
    refine sE ?_
    refine ⟨⟨i + 3, j + 1, o1, o2, tok1, nt1⟩, ⟨by simp only; omega, by simp only; omega, htk2⟩, by simp only; omega, ?_⟩
    simp only [stSc, hNM2]
    exact Weaks.mk htk2.le rfl (by simp [ToL, lk, w3]) (by simp [BoxL, lk, hE, hz])
 ·have hj3 : j = scN x.more := by omega
  subst hj3
  have hd : decide ((x.codes.length : Int) ≤ 12) = decide (x.codes.length ≤ 12) := decide_eq_decide.2 (by omega)
  have hG : x.g = scK x.r.g x.more (scN x.more) := rfl
  rw [hG]
  by_cases h9 : (i : Int) < 9
  ·have hl2' : ¬ (i : Int) + 2 < x.more.length := by omega
   try (simp [hl2', h9, w2])
   repeat (refine sR ?_; simp [hl2', h9, w2])
   refine sC ?_
   simp [hl2', h9]
   refine sX ?_
   simp only [AU, ↓reduceIte]
   refine sN ?_
   refine AL.region2 follows_Tryz (Nat.le_refl _) (by kernel_rfl) (Side.of (by simp)) ?_
   simp
   refine sT ?_
   try simp only [AU]
   refine ⟨by simp, sF hbox htok htk.old htk.le ?_⟩
   simp [packA, idM, hd]
  ·by_cases hl2' : (i : Int) + 2 < x.more.length
   ·try (simp [hl2', h9, w2])
    repeat (refine sR ?_; simp [hl2', h9, w2])
    refine sC ?_
    simp [hl2', h9]
    refine sX ?_
    simp only [AU, ↓reduceIte]
    refine sN ?_
    refine AL.region2 follows_Tryz (Nat.le_refl _) (by kernel_rfl) (Side.of (by simp)) ?_
    simp
    refine sT ?_
    try simp only [AU]
    refine ⟨by simp, sF hbox htok htk.old htk.le ?_⟩
    simp [packA, idM, hd]
   ·try (simp [hl2', h9, w2])
    repeat (refine sR ?_; simp [hl2', h9, w2])
    refine sC ?_
    simp [hl2', h9]
    refine sX ?_
    simp only [AU, ↓reduceIte]
    refine sN ?_
    refine AL.region2 follows_Tryz (Nat.le_refl _) (by kernel_rfl) (Side.of (by simp)) ?_
    simp
    refine sT ?_
    try simp only [AU]
    refine ⟨by simp, sF hbox htok htk.old htk.le ?_⟩
    simp [packA, idM, hd]
end Go.AM
namespace Go.AM
open Go Go.Proofs
theorem stg_fitZ {s : Sp} {g : Gr} (st : Stg s g) : s.l.Fit ∧ s.r.Fit ∧ g.Fit ∧ (idM s.l).Fit := by
 have h1 := st.n; have h2 := st.e; have h3 := st.rn; have h4 := st.re; have h5 := st.gn; have h6 := st.ge
 exact ⟨⟨by omega, by omega⟩, ⟨by omega, by omega⟩, ⟨by omega, by omega⟩, ⟨by simp [idM]; omega, by simp [idM]; omega⟩⟩
set_option maxRecDepth 100000 in
theorem lawBehind_c (x : Scn) (hx : x.U8) (tok : Tks) (nt : Nat) : ∃ tok' nt', DCall Tryz.prog 7 [x.av] tok nt (B true) tok' nt' := by
 refine ⟨tok, nt, ?_⟩
 intro box nb
 have hsc := scene34_c x hx
 obtain ⟨st, _, _, _⟩ := Scn.stg hx
 have hs := st.spok
 have hm := st.lg.emb
 have hb := behind34_c x.r.sp x.g (idM x.r.g) hs hm
 obtain ⟨fl, fr, fg, fm⟩ := stg_fitZ st
 have va : validG x.r.g = 0 := hm.vm.va
 have vb : validG x.r.right = 0 := hs.i.vm.vb
 have hrf := ru_fit hs va vb
 have hmk := fun (h : x.codes.length ≤ 12) (h3 : x.r.right.nodes.length ≤ 3) (h2 : x.r.right.edges.length ≤ 2) => made33_c x.r.right x.codes hx.c (by omega) vb (by omega) (by omega)
 have hlf := fun h => leftP_c x.r.sp.ru (madeR x.r.right x.codes) hrf h
 have hlaw := behind_law (s := x.r.sp) (g := x.g) st hx.c
 have s1 := fun (R : Cd) (h : R.Fit) => satisfies_c x.r.g R x.g (idM x.r.g) fl h fg fm
 have s2 := fun (R : Cd) (h : R.Fit) (g : Gr) (m : Mo) (he : Emb x.r.right g m) => satisfies_c x.r.right R g m fr h he.fit.2.2 he.fit.1
 have eid : idM x.r.sp.l = idM x.r.g := rfl
 have esr : x.r.sp.r = x.r.right := rfl
 have esl : x.r.sp.l = x.r.g := rfl
 rw [eid, esr, esl] at hlaw
 generalize behR x.r.sp x.g (idM x.r.g) = P at *
 generalize madeR x.r.right x.codes = c at *
 generalize leftR x.r.sp.ru c = R at *
 refine sB Tryz.func7 Tryz.ntmps7 ?_
 intro hbox htok
 simp only at hbox htok
 apply AL.start
 try (simp)
 repeat (refine sR ?_; simp)
 refine Stop.of_d (awake34_c _ _) ?_
 simp
 try (simp)
 repeat (refine sR ?_; simp)
 refine sC ?_
 simp
 try (simp)
 repeat (refine sR ?_; simp)
 refine Stop.of_d (hsc _ _) ?_
 simp
 try (simp)
 repeat (refine sR ?_; simp)
 refine Stop.of_d (hb _ _) ?_
 simp
 try (simp)
 repeat (refine sR ?_; simp)
 have rnl : x.r.sp.ru.rg.nodes.length = x.r.right.nodes.length := rfl
 have rel : x.r.sp.ru.rg.edges.length = x.r.right.edges.length := rfl
 by_cases c12 : x.codes.length ≤ 12
 ·cases hP : P.2
  ·try (simp [c12, hP])
   repeat (refine sR ?_; simp [c12, hP])
   refine sC ?_
   simp [c12, hP]
   try (simp)
   repeat (refine sR ?_; simp)
   refine sT ?_
   try simp only [AU]
   refine ⟨by simp, sF hbox htok (fun _ h => h) (Nat.le_refl _) ?_⟩
   simp [packA]
  ·by_cases e3 : x.r.right.nodes.length ≤ 3
   ·have e3' : ¬ (3 : Int) < x.r.right.nodes.length := by omega
    by_cases e2 : x.r.right.edges.length ≤ 2
    ·have e2' : ¬ (2 : Int) < x.r.right.edges.length := by omega
     obtain ⟨le, lf, v, l1, l2, l3, l4⟩ := hlaw hP e3 e2
     have hmk := hmk c12 e3 e2
     have hlf := hlf lf
     have s1 := s1 R.1 l2
     have s2 := s2 c lf P.1.1 P.1.2 le
     rw [l3] at s1
     rw [l4] at s2
     try (simp [c12, hP, e2', e3', rnl, rel])
     repeat (refine sR ?_; simp [c12, hP, e2', e3', rnl, rel])
     refine sC ?_
     simp
     try (simp)
     repeat (refine sR ?_; simp)
     refine Stop.of_d (hmk _ _) ?_
     simp
     try (simp)
     repeat (refine sR ?_; simp)
     refine Stop.of_d (hlf _ _) ?_
     simp
     try (simp)
     repeat (refine sR ?_; simp)
     refine Stop.of_d (s1 _ _) ?_
     simp
     try (simp)
     repeat (refine sR ?_; simp)
     refine Stop.of_d (s2 _ _) ?_
     simp
     try (simp [l1])
     repeat (refine sR ?_; simp [l1])
     refine sT ?_
     try simp only [AU]
     refine ⟨by simp, sF hbox htok (fun _ h => h) (Nat.le_refl _) ?_⟩
     simp [packA]
    ·have e2' : (2 : Int) < x.r.right.edges.length := by omega
     try (simp [c12, hP, e2', e3', rnl, rel])
     repeat (refine sR ?_; simp [c12, hP, e2', e3', rnl, rel])
     refine sC ?_
     simp
     try (simp)
     repeat (refine sR ?_; simp)
     refine sT ?_
     try simp only [AU]
     refine ⟨by simp, sF hbox htok (fun _ h => h) (Nat.le_refl _) ?_⟩
     simp [packA]
   ·have e3' : (3 : Int) < x.r.right.nodes.length := by omega
    try (simp [c12, hP, e3', rnl, rel])
    repeat (refine sR ?_; simp [c12, hP, e3', rnl, rel])
    refine sC ?_
    simp
    try (simp)
    repeat (refine sR ?_; simp)
    refine sT ?_
    try simp only [AU]
    refine ⟨by simp, sF hbox htok (fun _ h => h) (Nat.le_refl _) ?_⟩
    simp [packA]
 ·try (simp [c12])
  repeat (refine sR ?_; simp [c12])
  refine sC ?_
  simp [c12]
  try (simp)
  repeat (refine sR ?_; simp)
  refine sT ?_
  try simp only [AU]
  refine ⟨by simp, sF hbox htok (fun _ h => h) (Nat.le_refl _) ?_⟩
  simp [packA]
set_option maxRecDepth 100000 in
theorem lawAhead_c (x : Scn) (hx : x.U8) (tok : Tks) (nt : Nat) : ∃ tok' nt', DCall Tryz.prog 9 [x.av] tok nt (B true) tok' nt' := by
 refine ⟨tok, nt, ?_⟩
 intro box nb
 have hsc := scene34_c x hx
 obtain ⟨st, _, _, _⟩ := Scn.stg hx
 have hs := st.spok
 have hm := st.lg.emb
 have hb := behind34_c x.r.sp x.g (idM x.r.g) hs hm
 obtain ⟨fl, fr, fg, fm⟩ := stg_fitZ st
 have va : validG x.r.g = 0 := hm.vm.va
 have vb : validG x.r.right = 0 := hs.i.vm.vb
 have hrf := ru_fit hs va vb
 have hn3 : x.r.g.nodes.length ≤ 3 := st.n
 have hmk := fun (h : x.codes.length ≤ 12) (h2 : x.r.g.edges.length ≤ 2) => made33_c x.r.g x.codes hx.c (by omega) va (by omega) (by omega)
 have hlf := fun h => rightP_c x.r.sp.ru (madeR x.r.g x.codes) hrf h
 have hlaw := ahead_law (s := x.r.sp) (g := x.g) st hx.c
 have s1 := fun (R : Cd) (h : R.Fit) (g : Gr) (m : Mo) (he : Emb x.r.right g m) => satisfies_c x.r.right R g m fr h he.fit.2.2 he.fit.1
 have s2 := fun (R : Cd) (h : R.Fit) => satisfies_c x.r.g R x.g (idM x.r.g) fl h fg fm
 have eid : idM x.r.sp.l = idM x.r.g := rfl
 have esr : x.r.sp.r = x.r.right := rfl
 have esl : x.r.sp.l = x.r.g := rfl
 rw [eid, esr, esl] at hlaw
 generalize behR x.r.sp x.g (idM x.r.g) = P at *
 generalize madeR x.r.g x.codes = c at *
 generalize rightR x.r.sp.ru c = R at *
 refine sB Tryz.func9 Tryz.ntmps9 ?_
 intro hbox htok
 simp only at hbox htok
 apply AL.start
 try (simp)
 repeat (refine sR ?_; simp)
 refine Stop.of_d (awake34_c _ _) ?_
 simp
 try (simp)
 repeat (refine sR ?_; simp)
 refine sC ?_
 simp
 try (simp)
 repeat (refine sR ?_; simp)
 refine Stop.of_d (hsc _ _) ?_
 simp
 try (simp)
 repeat (refine sR ?_; simp)
 refine Stop.of_d (hb _ _) ?_
 simp
 try (simp)
 repeat (refine sR ?_; simp)
 have rel : x.r.sp.ru.lg.edges.length = x.r.g.edges.length := rfl
 by_cases c12 : x.codes.length ≤ 12
 ·cases hP : P.2
  ·try (simp [c12, hP])
   repeat (refine sR ?_; simp [c12, hP])
   refine sC ?_
   simp [c12, hP]
   try (simp)
   repeat (refine sR ?_; simp)
   refine sT ?_
   try simp only [AU]
   refine ⟨by simp, sF hbox htok (fun _ h => h) (Nat.le_refl _) ?_⟩
   simp [packA]
  ·by_cases e2 : x.r.g.edges.length ≤ 2
   ·have e2' : ¬ (2 : Int) < x.r.g.edges.length := by omega
    obtain ⟨le, lf, v, l1, l2, l3, l4⟩ := hlaw hP e2
    have hmk := hmk c12 e2
    have hlf := hlf lf
    have s1 := s1 R.1 l2 P.1.1 P.1.2 le
    have s2 := s2 c lf
    rw [l3] at s1
    rw [l4] at s2
    try (simp [c12, hP, e2', rel])
    repeat (refine sR ?_; simp [c12, hP, e2', rel])
    refine sC ?_
    simp
    try (simp)
    repeat (refine sR ?_; simp)
    refine Stop.of_d (hmk _ _) ?_
    simp
    try (simp)
    repeat (refine sR ?_; simp)
    refine Stop.of_d (hlf _ _) ?_
    simp
    try (simp)
    repeat (refine sR ?_; simp)
    refine Stop.of_d (s1 _ _) ?_
    simp
    try (simp)
    repeat (refine sR ?_; simp)
    refine Stop.of_d (s2 _ _) ?_
    simp
    try (simp [l1])
    repeat (refine sR ?_; simp [l1])
    refine sT ?_
    try simp only [AU]
    refine ⟨by simp, sF hbox htok (fun _ h => h) (Nat.le_refl _) ?_⟩
    simp [packA]
   ·have e2' : (2 : Int) < x.r.g.edges.length := by omega
    try (simp [c12, hP, e2', rel])
    repeat (refine sR ?_; simp [c12, hP, e2', rel])
    refine sC ?_
    simp
    try (simp)
    repeat (refine sR ?_; simp)
    refine sT ?_
    try simp only [AU]
    refine ⟨by simp, sF hbox htok (fun _ h => h) (Nat.le_refl _) ?_⟩
    simp [packA]
 ·try (simp [c12])
  repeat (refine sR ?_; simp [c12])
  refine sC ?_
  simp [c12]
  try (simp)
  repeat (refine sR ?_; simp)
  refine sT ?_
  try simp only [AU]
  refine ⟨by simp, sF hbox htok (fun _ h => h) (Nat.le_refl _) ?_⟩
  simp [packA]
end Go.AM
