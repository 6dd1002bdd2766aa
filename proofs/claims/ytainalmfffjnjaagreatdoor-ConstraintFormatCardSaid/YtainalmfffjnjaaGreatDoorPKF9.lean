/-
 Parts of the proof, as merged from many texts: a machine over data, what the functions compute, plain laws.
-/
import Derived.Test.YtainalmfffjnjaaGreatDoorPKF8
import Derived.Shelf.Small.Strs
import Derived.Shelf.Strconv.Itoa0
import Derived.Shelf.Strconv.Itoa1
import Derived.Shelf.Strconv.Itoa2
import Derived.Shelf.Strconv.Itoa3
import Derived.Shelf.LaysM
import Derived.Ground.Names2Prog
import Derived.Test.YtainalmfffjnjaaGreatDoorProg
set_option linter.unusedSimpArgs false
set_option linter.unusedVariables false
namespace Go.AM
open Go Go.Proofs
def Sr.stNp (s : Sr) (fm : Nat) (N : List Int) (r : Nat) (out : List Mo) (k : Nat) : List Mo :=
 if s.okN N k = true then (if s.pos (N ++ [(k : Int)]) = true then s.fnP fm r (N ++ [(k : Int)]) out else out) else out
def stFdN (s : Sr) (nl : Bool) (fm : Nat) (N : List Int) (nb k : Nat) (box : Bxs) (x : AccK) : AState :=
 ⟨tl [(63, I x.i), (62, I s.g.nodes.length), (61, .d (ints s.g.nodes)), (2, I N.length), (0, .ptr k 0 0)], lb nb (upd box k (some [s.rowF nl fm N x.a [] x.b x.out x.own])) [], x.tok, x.nt⟩
theorem isD_row {t : Ty} {a : Nat} (h : a < t.nodes.length) : (isTb t)[a]'(by simp [isTb]; exact h) = isRow t a := by simp [isTb]
set_option maxRecDepth 100000 in
theorem findN_c (s : Sr) (h : s.Ok) (nl : Bool) (hnl : s.Nl nl) (fm : Nat) (hfm : fm ≤ 1000000) (mtok : Tks) (nt0 : Nat) : ∀ (r : Nat) (N : List Int) (out : List Mo) (a b : Nat) (own : Own) (box : Bxs) (nb k : Nat) (tok : Tks) (nt : Nat), N.length + r = s.p.nodes.length → out.length ≤ fm →
  box k = some [s.rowF nl fm N a [] b out own] → TK mtok nt0 tok nt [.tok a, .tok b, own] → ACalls Tryz.prog 286 [.ptr k 0 0] ⟨box, nb, tok, nt⟩ (QFd s nl fm box nb k mtok nt0 nt N [] (s.fnP fm r N out)) := by
 have hpn := h.p.n
 have hpe := h.p.e
 have hgn := h.g.n
 have hge := h.g.e
 have htn := h.t.n
 intro r
 induction r with
 | zero =>
  intro N out a b own box nb k tok nt hN ho hk htk
  exact findE_c s h nl hnl fm hfm N (by omega) mtok nt0 s.p.edges.length [] out a b own box nb k tok nt (by simp) ho hk htk
 | succ r ih =>
  intro N out a b own box nb k tok nt hN ho hk htk
  have hself : box = upd box k (some [s.rowF nl fm N a [] b out own]) := (upd_self box k _ hk).symm
  have hlt : N.length < s.p.nodes.length := by omega
  refine sB Tryz.func286 Tryz.ntmps286 ?_
  intro hbox htok
  simp only at hbox htok
  apply AL.start
  have hkn := key_lt hbox hk
  try (simp [lb_out hkn, hk])
  repeat (refine sR ?_; simp [lb_out hkn, hk])
  by_cases hbig : out.length = fm
  ·have b1 : ((out.length : Int) == (fm : Int)) = true := by simp [hbig]
   try (simp [lb_out hkn, hk, b1])
   repeat (first | (refine sR ?_; simp [lb_out hkn, hk, b1]) | (refine sC ?_; simp [lb_out hkn, hk, b1]) | (refine sX ?_; simp only [AU, ↓reduceIte]))
   refine sN ?_
   refine sE ?_
   refine ⟨by simp, (Fin.own (vs := []) (av := .tup []) (by simp [resAs, resA]) hbox rfl (Nat.le_refl _) (by simp [packA])).mono fun v m hq => ⟨hq.1, a, b, own, tok, nt, ?_, htk, Nat.le_refl _⟩⟩
   rw [hq.2, Sr.fnP, fndN, if_pos hbig, ← hself]
  ·have b1 : ((out.length : Int) == (fm : Int)) = false := by simp; omega
   try (simp [lb_out hkn, hk, b1, hlt])
   repeat (first | (refine sR ?_; simp [lb_out hkn, hk, b1, hlt]) | (refine sC ?_; simp [lb_out hkn, hk, b1, hlt]) | (refine sX ?_; simp only [AU, ↓reduceIte]))
   refine sN ?_
   have hlb : ∀ loc, lb nb box loc = lb nb (upd box k (some [s.rowF nl fm N a [] b out own])) loc := fun loc => by rw [← hself]
   rw [hlb]
   refine AL.loopT (stFdN s nl fm N nb k box) (fun x => x.i ≤ s.g.nodes.length ∧ x.out = (List.range x.i).foldl (s.stNp fm N r) out ∧ x.out.length ≤ fm ∧ TK mtok nt0 x.tok x.nt [.tok x.a, .tok x.b, x.own] ∧ nt ≤ x.nt) (fun x => s.g.nodes.length - x.i)
    ⟨0, out, a, b, own, tok, nt⟩ ⟨Nat.zero_le _, rfl, ho, htk, Nat.le_refl _⟩ (Weaks.mk' (Nat.le_refl _) (by simp [ToL, lk]; exact to_ptr (by rw [lb_out hkn, upd_same]; simp)) (by simp [BoxL, lk]) (outFd rfl)) ?_
   rintro ⟨i, out2, a2, b2, own2, tok2, nt2⟩ S ⟨hi, hout, ho2, htk2, hnt2⟩ hS
   simp only [stFdN] at hS hi hout ho2 htk2 hnt2
   subst hS
   have hw : IntKind.i64.wrap (↑i + 1) = ((i + 1 : Nat) : Int) := by rw [wrap_in (by omega) (by omega)]; omega
   have hfold : (List.range (i + 1)).foldl (s.stNp fm N r) out = s.stNp fm N r out2 i := by
    rw [hout, List.range_succ, List.foldl_append]; rfl
   have hta : tok2 a2 = true := htk2.live
   have htb : tok2 b2 = true := htk2.swap.live
   by_cases hli : i < s.g.nodes.length
   ·have hlp : N.length < s.pt.nodes.length := by rw [h.pn]; exact hlt
    have hgv := gvB_gvI hnl.n hlp i
    have hgiv := givenF_c nl s.pt.nodes N.length hlp (by rw [h.pn]; omega)
    obtain ⟨z1, z2⟩ := h.np _ (List.getElem_mem hlt)
    obtain ⟨z3, z4⟩ := h.ng _ (List.getElem_mem hli)
    have hgi : s.g.nodes.getD i 0 = s.g.nodes[i] := by simp [hli]
    have hpn2 : s.p.nodes.getD N.length 0 = s.p.nodes[N.length] := by simp [hlt]
    obtain ⟨q, hq⟩ := Int.eq_ofNat_of_zero_le z1
    obtain ⟨u, hu⟩ := Int.eq_ofNat_of_zero_le z3
    have hq2 : q < s.t.nodes.length := by omega
    have hu2 : u < s.t.nodes.length := by omega
    have hokN : s.okN N i = if (if 0 ≤ gvI nl s.pt.nodes N.length then decide (gvI nl s.pt.nodes N.length = (i : Int)) else true) = true then (if usB s.inj N i = true then false else isB s.t (u : Int) (q : Int)) else false := by
     unfold Sr.okN
     rw [hgv, hgi, hpn2, hq, hu]
    generalize gvI nl s.pt.nodes N.length = W at *
    have hisD : D.sl 1 (List.map (fun r => [blB r]) (isTb s.t)) = isD s.t := rfl
    have hlt1 : (isTb s.t).length = s.t.nodes.length := by simp [isTb]
    have hlt2 : (isRow s.t q).length = s.t.nodes.length := by simp [isRow]
    have hrow : (isTb s.t)[q]'(by rw [hlt1]; exact hq2) = isRow s.t q := isD_row hq2
    have hcol : (isRow s.t q)[u]'(by rw [hlt2]; exact hu2) = isB s.t (u : Int) (q : Int) := by simp [isRow]
    try (simp [lb_out hkn, upd_same, hli])
    repeat (first | (refine sR ?_; simp [lb_out hkn, upd_same, hli]) | (refine sC ?_; simp [lb_out hkn, upd_same, hli]) | (refine sX ?_; simp only [AU, ↓reduceIte]))
    refine Stop.of_d (hgiv _ _) ?_
    simp
    by_cases p01 : 0 ≤ W ∧ W ≠ (i : Int)
    ·obtain ⟨p0, p1⟩ := p01
     have bw : (W != (i : Int)) = true := by simp [p1]
     have hok : s.okN N i = false := by rw [hokN, if_pos p0]; simp [p1]
     try (simp [lb_out hkn, upd_same, p0, bw, hw])
     repeat (first | (refine sR ?_; simp [lb_out hkn, upd_same, p0, bw, hw]) | (refine sC ?_; simp [lb_out hkn, upd_same, p0, bw, hw]) | (refine sX ?_; simp only [AU, ↓reduceIte]))
     refine sE ?_
     exact ⟨⟨i + 1, out2, a2, b2, own2, tok2, nt2⟩, ⟨hli, by rw [hfold, Sr.stNp, hok]; simp, ho2, htk2, hnt2⟩, by simp only; omega, Weaks.mk' (by have := htk2.le; omega) (by simp [ToL, lk]; exact to_ptr (by rw [lb_out hkn, upd_same]; simp)) (by simp [BoxL, lk]) (outFd rfl)⟩
    ·have hW : (if 0 ≤ W then decide (W = (i : Int)) else true) = true := by
      by_cases p0 : 0 ≤ W
      ·rw [if_pos p0]
       by_cases p1 : W = (i : Int)
       ·simp [p1]
       ·exact absurd ⟨p0, p1⟩ p01
      ·rw [if_neg p0]
     rw [if_pos hW] at hokN
     have hst : ∀ Q, (0 ≤ W → (W != (i : Int)) = false → Q) → (¬ 0 ≤ W → Q) → Q := by
      intro Q h1 h2
      by_cases p0 : 0 ≤ W
      ·refine h1 p0 ?_
       by_cases p1 : W = (i : Int)
       ·simp [p1]
       ·exact absurd ⟨p0, p1⟩ p01
      ·exact h2 p0
     have skip : ∀ Q : Prop, (s.inj = true → decide ((i : Int) ∈ N) = true → Q) → (s.inj = true → decide ((i : Int) ∈ N) = false → Q) → (s.inj = false → Q) → Q := by
      intro Q h1 h2 h3
      cases ei : s.inj
      ·exact h3 ei
      ·cases ed : decide ((i : Int) ∈ N)
       ·exact h2 ei ed
       ·exact h1 ei ed
     refine hst _ (fun p0 bw => ?_) (fun p0 => ?_)
     ·cases hB : isB s.t (u : Int) (q : Int)
      ·have hok : s.okN N i = false := by rw [hokN, hB]; simp
       try (simp [lb_out hkn, upd_same, p0, bw, hw, hlt, hq, hu, hq2, hu2, isD, hlt1, hlt2, hrow, hcol, hB])
       repeat (first | (refine sR ?_; simp [lb_out hkn, upd_same, p0, bw, hw, hlt, hq, hu, hq2, hu2, isD, hlt1, hlt2, hrow, hcol, hB]) | (refine sC ?_; simp [lb_out hkn, upd_same, p0, bw, hw, hlt, hq, hu, hq2, hu2, isD, hlt1, hlt2, hrow, hcol, hB]) | (refine sX ?_; simp only [AU, ↓reduceIte]))
       refine sE ?_
       exact ⟨⟨i + 1, out2, a2, b2, own2, tok2, nt2⟩, ⟨hli, by rw [hfold, Sr.stNp, hok]; simp, ho2, htk2, hnt2⟩, by simp only; omega, Weaks.mk' (by have := htk2.le; omega) (by simp [ToL, lk]; exact to_ptr (by rw [lb_out hkn, upd_same]; simp)) (by simp [BoxL, lk]) (outFd rfl)⟩
      ·rw [hB] at hokN
       refine skip _ (fun ei ed => ?_) (fun ei ed => ?_) (fun ei => ?_)
       ·have hok : s.okN N i = false := by rw [hokN, usB, if_pos ei, ed]; rfl
        try (simp [lb_out hkn, upd_same, p0, bw, hw, hlt, hq, hu, hq2, hu2, isD, hlt1, hlt2, hrow, hcol, hB, ei])
        repeat (first | (refine sR ?_; simp [lb_out hkn, upd_same, p0, bw, hw, hlt, hq, hu, hq2, hu2, isD, hlt1, hlt2, hrow, hcol, hB, ei]) | (refine sC ?_; simp [lb_out hkn, upd_same, p0, bw, hw, hlt, hq, hu, hq2, hu2, isD, hlt1, hlt2, hrow, hcol, hB, ei]) | (refine sX ?_; simp only [AU, ↓reduceIte]))
        refine Stop.of_r (RCall.lends rfl (fun tok => contains_c N i (by omega) tok nt2) ⟨.stk hta, .same (by simp), trivial⟩) ?_
        rw [ed]
        try (simp [hw])
        repeat (first | (refine sR ?_; simp [hw]) | (refine sC ?_; simp [hw]) | (refine sX ?_; simp only [AU, ↓reduceIte]))
        refine sE ?_
        exact ⟨⟨i + 1, out2, a2, b2, own2, tok2, nt2⟩, ⟨hli, by rw [hfold, Sr.stNp, hok]; simp, ho2, htk2, hnt2⟩, by simp only; omega, Weaks.mk' (by have := htk2.le; omega) (by simp [ToL, lk]; exact to_ptr (by rw [lb_out hkn, upd_same]; simp)) (by simp [BoxL, lk]) (outFd rfl)⟩
       ·have hok : s.okN N i = true := by rw [hokN, usB, if_pos ei, ed]; rfl
        try (simp [lb_out hkn, upd_same, p0, bw, hw, hlt, hq, hu, hq2, hu2, isD, hlt1, hlt2, hrow, hcol, hB, ei])
        repeat (first | (refine sR ?_; simp [lb_out hkn, upd_same, p0, bw, hw, hlt, hq, hu, hq2, hu2, isD, hlt1, hlt2, hrow, hcol, hB, ei]) | (refine sC ?_; simp [lb_out hkn, upd_same, p0, bw, hw, hlt, hq, hu, hq2, hu2, isD, hlt1, hlt2, hrow, hcol, hB, ei]) | (refine sX ?_; simp only [AU, ↓reduceIte]))
        refine Stop.of_r (RCall.lends rfl (fun tok => contains_c N i (by omega) tok nt2) ⟨.stk hta, .same (by simp), trivial⟩) ?_
        rw [ed]
        try (simp [lb_out hkn, upd_same])
        repeat (first | (refine sR ?_; simp [lb_out hkn, upd_same]) | (refine sC ?_; simp [lb_out hkn, upd_same]) | (refine sX ?_; simp only [AU, ↓reduceIte]))
        refine ⟨⟨by omega, hta⟩, ?_⟩
        have htk3 := htk2.app
        simp only [upd_lb_out hkn, upd_upd]
        have hta3 : (upd (upd tok2 a2 false) nt2 true) nt2 = true := upd_same _ _ _
        have htb3 : (upd (upd tok2 a2 false) nt2 true) b2 = true := htk3.swap.live
        have hpos := possibleF_c s h nl hnl fm (N ++ [(i : Int)]) [] (by simp; omega) out2
        try (simp [lb_out hkn, upd_same])
        repeat (first | (refine sR ?_; simp [lb_out hkn, upd_same]) | (refine sC ?_; simp [lb_out hkn, upd_same]) | (refine sX ?_; simp only [AU, ↓reduceIte]))
        refine Stop.of_r (RCall.lends rfl (fun tok => hpos tok (nt2 + 1)) ⟨.ptr (row := s.rowF nl fm (N ++ [(i : Int)]) nt2 [] b2 out2 own2) (by simp [lb_out hkn, upd_same]) (Sr.row_cds (own := own2) hta3 htb3), trivial⟩) ?_
        cases hP : s.pos (N ++ [(i : Int)])
        ·try (simp [lb_out hkn, upd_same, rI_cut, hw])
         repeat (first | (refine sR ?_; simp [lb_out hkn, upd_same, rI_cut, hw]) | (refine sC ?_; simp [lb_out hkn, upd_same, rI_cut, hw]) | (refine sX ?_; simp only [AU, ↓reduceIte]))
         simp only [upd_lb_out hkn, upd_upd]
         refine sE ?_
         exact ⟨⟨i + 1, out2, nt2, b2, own2, _, nt2 + 1⟩, ⟨hli, by rw [hfold, Sr.stNp, hok, hP]; simp, ho2, htk3, Nat.le_succ_of_le hnt2⟩, by simp only; omega, Weaks.mk' (Nat.le_succ_of_le hnt2) (by simp [ToL, lk]; exact to_ptr (by rw [lb_out hkn, upd_same]; simp)) (by simp [BoxL, lk]) (outFd (s := s) (nl := nl) (fm := fm) (N := N) (E := []) (a := nt2) (b := b2) (out := out2) (own := own2) rfl)⟩
        ·try (simp [lb_out hkn, upd_same])
         repeat (first | (refine sR ?_; simp [lb_out hkn, upd_same]) | (refine sC ?_; simp [lb_out hkn, upd_same]) | (refine sX ?_; simp only [AU, ↓reduceIte]))
         refine Stop.of_a (ih (N ++ [(i : Int)]) out2 nt2 b2 own2 _ _ k _ _ (by simp; omega) ho2 (by simp [lb_out hkn, upd_same]) htk3) ?_
         rintro v m' ⟨rfl, a3, b3, own3, tok3, nt3, rfl, htk4, hle4⟩
         have hle4 : nt2 + 1 ≤ nt3 := hle4
         have hle5 : nt ≤ nt3 := by omega
         simp [upd_lb_out hkn, upd_upd]
         try (simp [lb_out hkn, upd_same, rI_cut, hw])
         repeat (first | (refine sR ?_; simp [lb_out hkn, upd_same, rI_cut, hw]) | (refine sC ?_; simp [lb_out hkn, upd_same, rI_cut, hw]) | (refine sX ?_; simp only [AU, ↓reduceIte]))
         simp only [upd_lb_out hkn, upd_upd]
         refine sE ?_
         exact ⟨⟨i + 1, s.fnP fm r (N ++ [(i : Int)]) out2, a3, b3, own3, tok3, nt3⟩, ⟨hli, by rw [hfold, Sr.stNp, hok, hP]; simp, Sr.fnP_len h ho2, htk4, by omega⟩, by simp only; omega, Weaks.mk' hle5 (by simp [ToL, lk]; exact to_ptr (by rw [lb_out hkn, upd_same]; simp)) (by simp [BoxL, lk]) (outFd (s := s) (nl := nl) (fm := fm) (N := N) (E := []) (a := a3) (b := b3) (out := s.fnP fm r (N ++ [(i : Int)]) out2) (own := own3) rfl)⟩
       ·have hok : s.okN N i = true := by rw [hokN, usB, if_neg (by simp [ei])]
        refine sR ?_
        simp [lb_out hkn, upd_same, p0, bw, hw, hlt, hq, hu, hq2, hu2, isD, hlt1, hlt2, hrow, hcol, hB, ei]
        refine sC ?_
        simp
        try (simp [lb_out hkn, upd_same])
        repeat (first | (refine sR ?_; simp [lb_out hkn, upd_same]) | (refine sC ?_; simp [lb_out hkn, upd_same]) | (refine sX ?_; simp only [AU, ↓reduceIte]))
        refine ⟨⟨by omega, hta⟩, ?_⟩
        have htk3 := htk2.app
        simp only [upd_lb_out hkn, upd_upd]
        have hta3 : (upd (upd tok2 a2 false) nt2 true) nt2 = true := upd_same _ _ _
        have htb3 : (upd (upd tok2 a2 false) nt2 true) b2 = true := htk3.swap.live
        have hpos := possibleF_c s h nl hnl fm (N ++ [(i : Int)]) [] (by simp; omega) out2
        try (simp [lb_out hkn, upd_same])
        repeat (first | (refine sR ?_; simp [lb_out hkn, upd_same]) | (refine sC ?_; simp [lb_out hkn, upd_same]) | (refine sX ?_; simp only [AU, ↓reduceIte]))
        refine Stop.of_r (RCall.lends rfl (fun tok => hpos tok (nt2 + 1)) ⟨.ptr (row := s.rowF nl fm (N ++ [(i : Int)]) nt2 [] b2 out2 own2) (by simp [lb_out hkn, upd_same]) (Sr.row_cds (own := own2) hta3 htb3), trivial⟩) ?_
        cases hP : s.pos (N ++ [(i : Int)])
        ·try (simp [lb_out hkn, upd_same, rI_cut, hw])
         repeat (first | (refine sR ?_; simp [lb_out hkn, upd_same, rI_cut, hw]) | (refine sC ?_; simp [lb_out hkn, upd_same, rI_cut, hw]) | (refine sX ?_; simp only [AU, ↓reduceIte]))
         simp only [upd_lb_out hkn, upd_upd]
         refine sE ?_
         exact ⟨⟨i + 1, out2, nt2, b2, own2, _, nt2 + 1⟩, ⟨hli, by rw [hfold, Sr.stNp, hok, hP]; simp, ho2, htk3, Nat.le_succ_of_le hnt2⟩, by simp only; omega, Weaks.mk' (Nat.le_succ_of_le hnt2) (by simp [ToL, lk]; exact to_ptr (by rw [lb_out hkn, upd_same]; simp)) (by simp [BoxL, lk]) (outFd (s := s) (nl := nl) (fm := fm) (N := N) (E := []) (a := nt2) (b := b2) (out := out2) (own := own2) rfl)⟩
        ·try (simp [lb_out hkn, upd_same])
         repeat (first | (refine sR ?_; simp [lb_out hkn, upd_same]) | (refine sC ?_; simp [lb_out hkn, upd_same]) | (refine sX ?_; simp only [AU, ↓reduceIte]))
         refine Stop.of_a (ih (N ++ [(i : Int)]) out2 nt2 b2 own2 _ _ k _ _ (by simp; omega) ho2 (by simp [lb_out hkn, upd_same]) htk3) ?_
         rintro v m' ⟨rfl, a3, b3, own3, tok3, nt3, rfl, htk4, hle4⟩
         have hle4 : nt2 + 1 ≤ nt3 := hle4
         have hle5 : nt ≤ nt3 := by omega
         simp [upd_lb_out hkn, upd_upd]
         try (simp [lb_out hkn, upd_same, rI_cut, hw])
         repeat (first | (refine sR ?_; simp [lb_out hkn, upd_same, rI_cut, hw]) | (refine sC ?_; simp [lb_out hkn, upd_same, rI_cut, hw]) | (refine sX ?_; simp only [AU, ↓reduceIte]))
         simp only [upd_lb_out hkn, upd_upd]
         refine sE ?_
         exact ⟨⟨i + 1, s.fnP fm r (N ++ [(i : Int)]) out2, a3, b3, own3, tok3, nt3⟩, ⟨hli, by rw [hfold, Sr.stNp, hok, hP]; simp, Sr.fnP_len h ho2, htk4, by omega⟩, by simp only; omega, Weaks.mk' hle5 (by simp [ToL, lk]; exact to_ptr (by rw [lb_out hkn, upd_same]; simp)) (by simp [BoxL, lk]) (outFd (s := s) (nl := nl) (fm := fm) (N := N) (E := []) (a := a3) (b := b3) (out := s.fnP fm r (N ++ [(i : Int)]) out2) (own := own3) rfl)⟩
     ·cases hB : isB s.t (u : Int) (q : Int)
      ·have hok : s.okN N i = false := by rw [hokN, hB]; simp
       try (simp [lb_out hkn, upd_same, p0, hw, hlt, hq, hu, hq2, hu2, isD, hlt1, hlt2, hrow, hcol, hB])
       repeat (first | (refine sR ?_; simp [lb_out hkn, upd_same, p0, hw, hlt, hq, hu, hq2, hu2, isD, hlt1, hlt2, hrow, hcol, hB]) | (refine sC ?_; simp [lb_out hkn, upd_same, p0, hw, hlt, hq, hu, hq2, hu2, isD, hlt1, hlt2, hrow, hcol, hB]) | (refine sX ?_; simp only [AU, ↓reduceIte]))
       refine sE ?_
       exact ⟨⟨i + 1, out2, a2, b2, own2, tok2, nt2⟩, ⟨hli, by rw [hfold, Sr.stNp, hok]; simp, ho2, htk2, hnt2⟩, by simp only; omega, Weaks.mk' (by have := htk2.le; omega) (by simp [ToL, lk]; exact to_ptr (by rw [lb_out hkn, upd_same]; simp)) (by simp [BoxL, lk]) (outFd rfl)⟩
      ·rw [hB] at hokN
       refine skip _ (fun ei ed => ?_) (fun ei ed => ?_) (fun ei => ?_)
       ·have hok : s.okN N i = false := by rw [hokN, usB, if_pos ei, ed]; rfl
        try (simp [lb_out hkn, upd_same, p0, hw, hlt, hq, hu, hq2, hu2, isD, hlt1, hlt2, hrow, hcol, hB, ei])
        repeat (first | (refine sR ?_; simp [lb_out hkn, upd_same, p0, hw, hlt, hq, hu, hq2, hu2, isD, hlt1, hlt2, hrow, hcol, hB, ei]) | (refine sC ?_; simp [lb_out hkn, upd_same, p0, hw, hlt, hq, hu, hq2, hu2, isD, hlt1, hlt2, hrow, hcol, hB, ei]) | (refine sX ?_; simp only [AU, ↓reduceIte]))
        refine Stop.of_r (RCall.lends rfl (fun tok => contains_c N i (by omega) tok nt2) ⟨.stk hta, .same (by simp), trivial⟩) ?_
        rw [ed]
        try (simp [hw])
        repeat (first | (refine sR ?_; simp [hw]) | (refine sC ?_; simp [hw]) | (refine sX ?_; simp only [AU, ↓reduceIte]))
        refine sE ?_
        exact ⟨⟨i + 1, out2, a2, b2, own2, tok2, nt2⟩, ⟨hli, by rw [hfold, Sr.stNp, hok]; simp, ho2, htk2, hnt2⟩, by simp only; omega, Weaks.mk' (by have := htk2.le; omega) (by simp [ToL, lk]; exact to_ptr (by rw [lb_out hkn, upd_same]; simp)) (by simp [BoxL, lk]) (outFd rfl)⟩
       ·have hok : s.okN N i = true := by rw [hokN, usB, if_pos ei, ed]; rfl
        try (simp [lb_out hkn, upd_same, p0, hw, hlt, hq, hu, hq2, hu2, isD, hlt1, hlt2, hrow, hcol, hB, ei])
        repeat (first | (refine sR ?_; simp [lb_out hkn, upd_same, p0, hw, hlt, hq, hu, hq2, hu2, isD, hlt1, hlt2, hrow, hcol, hB, ei]) | (refine sC ?_; simp [lb_out hkn, upd_same, p0, hw, hlt, hq, hu, hq2, hu2, isD, hlt1, hlt2, hrow, hcol, hB, ei]) | (refine sX ?_; simp only [AU, ↓reduceIte]))
        refine Stop.of_r (RCall.lends rfl (fun tok => contains_c N i (by omega) tok nt2) ⟨.stk hta, .same (by simp), trivial⟩) ?_
        rw [ed]
        try (simp [lb_out hkn, upd_same])
        repeat (first | (refine sR ?_; simp [lb_out hkn, upd_same]) | (refine sC ?_; simp [lb_out hkn, upd_same]) | (refine sX ?_; simp only [AU, ↓reduceIte]))
        refine ⟨⟨by omega, hta⟩, ?_⟩
        have htk3 := htk2.app
        simp only [upd_lb_out hkn, upd_upd]
        have hta3 : (upd (upd tok2 a2 false) nt2 true) nt2 = true := upd_same _ _ _
        have htb3 : (upd (upd tok2 a2 false) nt2 true) b2 = true := htk3.swap.live
        have hpos := possibleF_c s h nl hnl fm (N ++ [(i : Int)]) [] (by simp; omega) out2
        try (simp [lb_out hkn, upd_same])
        repeat (first | (refine sR ?_; simp [lb_out hkn, upd_same]) | (refine sC ?_; simp [lb_out hkn, upd_same]) | (refine sX ?_; simp only [AU, ↓reduceIte]))
        refine Stop.of_r (RCall.lends rfl (fun tok => hpos tok (nt2 + 1)) ⟨.ptr (row := s.rowF nl fm (N ++ [(i : Int)]) nt2 [] b2 out2 own2) (by simp [lb_out hkn, upd_same]) (Sr.row_cds (own := own2) hta3 htb3), trivial⟩) ?_
        cases hP : s.pos (N ++ [(i : Int)])
        ·try (simp [lb_out hkn, upd_same, rI_cut, hw])
         repeat (first | (refine sR ?_; simp [lb_out hkn, upd_same, rI_cut, hw]) | (refine sC ?_; simp [lb_out hkn, upd_same, rI_cut, hw]) | (refine sX ?_; simp only [AU, ↓reduceIte]))
         simp only [upd_lb_out hkn, upd_upd]
         refine sE ?_
         exact ⟨⟨i + 1, out2, nt2, b2, own2, _, nt2 + 1⟩, ⟨hli, by rw [hfold, Sr.stNp, hok, hP]; simp, ho2, htk3, Nat.le_succ_of_le hnt2⟩, by simp only; omega, Weaks.mk' (Nat.le_succ_of_le hnt2) (by simp [ToL, lk]; exact to_ptr (by rw [lb_out hkn, upd_same]; simp)) (by simp [BoxL, lk]) (outFd (s := s) (nl := nl) (fm := fm) (N := N) (E := []) (a := nt2) (b := b2) (out := out2) (own := own2) rfl)⟩
        ·try (simp [lb_out hkn, upd_same])
         repeat (first | (refine sR ?_; simp [lb_out hkn, upd_same]) | (refine sC ?_; simp [lb_out hkn, upd_same]) | (refine sX ?_; simp only [AU, ↓reduceIte]))
         refine Stop.of_a (ih (N ++ [(i : Int)]) out2 nt2 b2 own2 _ _ k _ _ (by simp; omega) ho2 (by simp [lb_out hkn, upd_same]) htk3) ?_
         rintro v m' ⟨rfl, a3, b3, own3, tok3, nt3, rfl, htk4, hle4⟩
         have hle4 : nt2 + 1 ≤ nt3 := hle4
         have hle5 : nt ≤ nt3 := by omega
         simp [upd_lb_out hkn, upd_upd]
         try (simp [lb_out hkn, upd_same, rI_cut, hw])
         repeat (first | (refine sR ?_; simp [lb_out hkn, upd_same, rI_cut, hw]) | (refine sC ?_; simp [lb_out hkn, upd_same, rI_cut, hw]) | (refine sX ?_; simp only [AU, ↓reduceIte]))
         simp only [upd_lb_out hkn, upd_upd]
         refine sE ?_
         exact ⟨⟨i + 1, s.fnP fm r (N ++ [(i : Int)]) out2, a3, b3, own3, tok3, nt3⟩, ⟨hli, by rw [hfold, Sr.stNp, hok, hP]; simp, Sr.fnP_len h ho2, htk4, by omega⟩, by simp only; omega, Weaks.mk' hle5 (by simp [ToL, lk]; exact to_ptr (by rw [lb_out hkn, upd_same]; simp)) (by simp [BoxL, lk]) (outFd (s := s) (nl := nl) (fm := fm) (N := N) (E := []) (a := a3) (b := b3) (out := s.fnP fm r (N ++ [(i : Int)]) out2) (own := own3) rfl)⟩
       ·have hok : s.okN N i = true := by rw [hokN, usB, if_neg (by simp [ei])]
        refine sR ?_
        simp [lb_out hkn, upd_same, p0, hw, hlt, hq, hu, hq2, hu2, isD, hlt1, hlt2, hrow, hcol, hB, ei]
        refine sC ?_
        simp
        try (simp [lb_out hkn, upd_same])
        repeat (first | (refine sR ?_; simp [lb_out hkn, upd_same]) | (refine sC ?_; simp [lb_out hkn, upd_same]) | (refine sX ?_; simp only [AU, ↓reduceIte]))
        refine ⟨⟨by omega, hta⟩, ?_⟩
        have htk3 := htk2.app
        simp only [upd_lb_out hkn, upd_upd]
        have hta3 : (upd (upd tok2 a2 false) nt2 true) nt2 = true := upd_same _ _ _
        have htb3 : (upd (upd tok2 a2 false) nt2 true) b2 = true := htk3.swap.live
        have hpos := possibleF_c s h nl hnl fm (N ++ [(i : Int)]) [] (by simp; omega) out2
        try (simp [lb_out hkn, upd_same])
        repeat (first | (refine sR ?_; simp [lb_out hkn, upd_same]) | (refine sC ?_; simp [lb_out hkn, upd_same]) | (refine sX ?_; simp only [AU, ↓reduceIte]))
        refine Stop.of_r (RCall.lends rfl (fun tok => hpos tok (nt2 + 1)) ⟨.ptr (row := s.rowF nl fm (N ++ [(i : Int)]) nt2 [] b2 out2 own2) (by simp [lb_out hkn, upd_same]) (Sr.row_cds (own := own2) hta3 htb3), trivial⟩) ?_
        cases hP : s.pos (N ++ [(i : Int)])
        ·try (simp [lb_out hkn, upd_same, rI_cut, hw])
         repeat (first | (refine sR ?_; simp [lb_out hkn, upd_same, rI_cut, hw]) | (refine sC ?_; simp [lb_out hkn, upd_same, rI_cut, hw]) | (refine sX ?_; simp only [AU, ↓reduceIte]))
         simp only [upd_lb_out hkn, upd_upd]
         refine sE ?_
         exact ⟨⟨i + 1, out2, nt2, b2, own2, _, nt2 + 1⟩, ⟨hli, by rw [hfold, Sr.stNp, hok, hP]; simp, ho2, htk3, Nat.le_succ_of_le hnt2⟩, by simp only; omega, Weaks.mk' (Nat.le_succ_of_le hnt2) (by simp [ToL, lk]; exact to_ptr (by rw [lb_out hkn, upd_same]; simp)) (by simp [BoxL, lk]) (outFd (s := s) (nl := nl) (fm := fm) (N := N) (E := []) (a := nt2) (b := b2) (out := out2) (own := own2) rfl)⟩
        ·try (simp [lb_out hkn, upd_same])
         repeat (first | (refine sR ?_; simp [lb_out hkn, upd_same]) | (refine sC ?_; simp [lb_out hkn, upd_same]) | (refine sX ?_; simp only [AU, ↓reduceIte]))
         refine Stop.of_a (ih (N ++ [(i : Int)]) out2 nt2 b2 own2 _ _ k _ _ (by simp; omega) ho2 (by simp [lb_out hkn, upd_same]) htk3) ?_
         rintro v m' ⟨rfl, a3, b3, own3, tok3, nt3, rfl, htk4, hle4⟩
         have hle4 : nt2 + 1 ≤ nt3 := hle4
         have hle5 : nt ≤ nt3 := by omega
         simp [upd_lb_out hkn, upd_upd]
         try (simp [lb_out hkn, upd_same, rI_cut, hw])
         repeat (first | (refine sR ?_; simp [lb_out hkn, upd_same, rI_cut, hw]) | (refine sC ?_; simp [lb_out hkn, upd_same, rI_cut, hw]) | (refine sX ?_; simp only [AU, ↓reduceIte]))
         simp only [upd_lb_out hkn, upd_upd]
         refine sE ?_
         exact ⟨⟨i + 1, s.fnP fm r (N ++ [(i : Int)]) out2, a3, b3, own3, tok3, nt3⟩, ⟨hli, by rw [hfold, Sr.stNp, hok, hP]; simp, Sr.fnP_len h ho2, htk4, by omega⟩, by simp only; omega, Weaks.mk' hle5 (by simp [ToL, lk]; exact to_ptr (by rw [lb_out hkn, upd_same]; simp)) (by simp [BoxL, lk]) (outFd (s := s) (nl := nl) (fm := fm) (N := N) (E := []) (a := a3) (b := b3) (out := s.fnP fm r (N ++ [(i : Int)]) out2) (own := own3) rfl)⟩
   ·have : i = s.g.nodes.length := by omega
    subst this
    try (simp [lb_out hkn, upd_same])
    repeat (first | (refine sR ?_; simp [lb_out hkn, upd_same]) | (refine sC ?_; simp [lb_out hkn, upd_same]) | (refine sX ?_; simp only [AU, ↓reduceIte]))
    refine sN ?_
    refine sE ?_
    refine ⟨by simp, (Fin.gen (vs := []) (av := .tup []) (tok' := tok2) (nt' := nt2) (by simp [resAs, resA]) ?_ hnt2 (Nat.le_refl _) (fun t h => ⟨h, .inl rfl⟩) (outFd (by simp)) (by simp [packA])).mono fun v m hq => ⟨hq.1, a2, b2, own2, tok2, nt2, ?_, htk2, hnt2⟩⟩
    ·rw [← upd_lb_out hkn, hbox]
    ·rw [hq.2, Sr.fnP, fndN, if_neg hbig, hout]; rfl
end Go.AM
namespace Go.AM
open Go Go.Proofs
theorem to_frzW {p q : Nat → Prop} {k n : Nat} {L : List Bool} (h : L.length = n) : To p q (some (k, 1, L.map fun b => [D.raw (.bool b)])) (.msl k 0 n 1) (.d (blB L)) := by
 have h2 := To.frz (p := p) (q := q) (fz := some (k, 1, L.map fun b => [D.raw (.bool b)])) (k := k) (sz := 1) (es := L.map fun b => [D.raw (.bool b)]) rfl
 have : (L.map fun b => [D.raw (.bool b)]).length = n := by simp [h]
 rw [this] at h2
 exact h2
def mkB (n : Nat) (l : List Int) : List Bool := (List.range n).map fun (b : Nat) => decide ((b : Int) ∈ l)
theorem mkB_len (n : Nat) (l : List Int) : (mkB n l).length = n := by simp [mkB]
theorem mkB_nil (n : Nat) : List.replicate n [B false] = rowsB (mkB n []) := by
 refine List.ext_getElem (by simp [mkB]) fun i h1 h2 => ?_
 simp [rowsB, mkB]
theorem mkB_set {n : Nat} {l : List Int} {v : Int} (h0 : 0 ≤ v) : (mkB n l).set v.toNat true = mkB n (l ++ [v]) := by
 refine List.ext_getElem (by simp [mkB]) fun i h1 h2 => ?_
 rw [List.getElem_set]
 simp only [mkB, List.getElem_map, List.getElem_range, List.mem_append, List.mem_singleton]
 by_cases e : v.toNat = i
 ·rw [if_pos e]
  have : (i : Int) = v := by omega
  simp [this]
 ·rw [if_neg e]
  have : ¬ (i : Int) = v := by omega
  simp [this]
theorem mkB_row (t : Ty) (a : Nat) : mkB t.nodes.length (belK t (a : Int) t.nodes.length) = isRow t a := by
 refine List.ext_getElem (by simp [mkB, isRow]) fun i h1 h2 => ?_
 simp only [mkB, isRow, List.getElem_map, List.getElem_range]
 have hi : i < t.nodes.length := by simpa [mkB] using h1
 unfold belK
 by_cases h : isB t (i : Int) (a : Int) = true
 ·rw [h, decide_eq_true_eq]
  exact List.mem_map.2 ⟨i, List.mem_filter.2 ⟨List.mem_range.2 hi, h⟩, rfl⟩
 ·simp only [Bool.not_eq_true] at h
  rw [h, decide_eq_false_iff_not]
  intro hm
  obtain ⟨x, hx, e⟩ := List.mem_map.1 hm
  obtain ⟨_, hx⟩ := List.mem_filter.1 hx
  have : x = i := by omega
  subst this
  rw [h] at hx
  cases hx
theorem isTb_take {t : Ty} {i : Nat} (h : i < t.nodes.length) : (isTb t).take (i + 1) = (isTb t).take i ++ [isRow t i] := by
 have hl : i < (isTb t).length := by simp [isTb]; exact h
 rw [List.take_succ_eq_append_getElem hl, isD_row h]
def isRs (t : Ty) (i : Nat) : List (List D) := ((isTb t).take i).map fun r => [blB r]
theorem isRs_succ {t : Ty} {i : Nat} (h : i < t.nodes.length) : isRs t (i + 1) = isRs t i ++ [[blB (isRow t i)]] := by
 unfold isRs
 rw [isTb_take h, List.map_append]
 rfl
theorem isRs_len (t : Ty) (i : Nat) : (isRs t i).length ≤ i := by unfold isRs; rw [List.length_map, List.length_take]; omega
def stBl (t : Ty) (nb : Nat) (box : Bxs) (x : Acc) : AState :=
 ⟨tl [(13, I x.i), (12, I t.nodes.length), (11, .d (nts t.nodes)), (3, .osl 1 (isRs t x.i) x.own), (1, .ptr (nb + 1) 0 0)], lb nb box [(1, [[.d (nts t.nodes), .d (ets t.edges)]])], x.tok, x.nt⟩
def stBm (t : Ty) (i : Nat) (L : List Int) (own : Own) (nb : Nat) (box : Bxs) (tok : Tks) (nt : Nat) (j : Nat) : AState :=
 ⟨tl [(28, I j), (27, I L.length), (26, .d (ints L)), (5, .msl (nb + 19) 0 t.nodes.length 1), (13, I i), (12, I t.nodes.length), (11, .d (nts t.nodes)), (3, .osl 1 (isRs t i) own), (1, .ptr (nb + 1) 0 0)],
  lb nb box [(19, rowsB (mkB t.nodes.length (L.take j))), (1, [[.d (nts t.nodes), .d (ets t.edges)]])], tok, nt⟩
theorem belowF_c (t : Ty) (ht : t.Fit) (h0 : tyE t = 0) (tok : Tks) (nt : Nat) : DCall Tryz.prog 285 [t.av] tok nt (.d (isD t)) tok nt := by
 intro box nb
 have htn := ht.n
 have hb := fun a => below_c t ht a
 refine sB Tryz.func285 Tryz.ntmps285 ?_
 intro hbox htok
 simp only at hbox htok
 apply AL.start
 try (simp)
 repeat (refine sR ?_; simp)
 refine sN ?_
 refine AL.loopT (stBl t nb box) (fun x => x.i ≤ t.nodes.length ∧ TK tok nt x.tok x.nt [x.own]) (fun x => t.nodes.length - x.i) ⟨0, .full, tok, nt⟩ ⟨Nat.zero_le _, (TK.start htok).full⟩ (Weaks.mk (Nat.le_refl _) rfl (by simp [ToL, lk, isRs]) (by simp [BoxL, lk])) ?_
 rintro ⟨i, own, tok', nt'⟩ S ⟨hi, htk⟩ hS
 simp only [stBl] at hS hi htk
 subst hS
 have hw := sW (i := i) (by omega)
 by_cases hlt : i < t.nodes.length
 ·have hrow := mkB_row t i
  have hs := isRs_succ hlt
  have hsl := isRs_len t i
  have hlR : belR t (i : Int) = (belK t (i : Int) t.nodes.length, 0) := by
   unfold belR
   rw [givE_leaf h0 (by omega), if_neg (by omega)]
  have hLn : ∀ v ∈ belK t (i : Int) t.nodes.length, 0 ≤ v ∧ v < t.nodes.length := by
   intro v hv
   unfold belK at hv
   simp only [List.mem_map, List.mem_filter, List.mem_range] at hv
   obtain ⟨x, ⟨hx, _⟩, rfl⟩ := hv
   omega
  have hLl := belK_len t (i : Int) t.nodes.length
  have hbi := hb (i : Int)
  rw [hlR] at hbi
  generalize belK t (i : Int) t.nodes.length = L at *
  try (simp [hlt])
  repeat (first | (refine sR ?_; simp [hlt]) | (refine sC ?_; simp [hlt]) | (refine sX ?_; simp only [AU, ↓reduceIte]))
  refine ⟨by omega, ?_⟩
  try (simp)
  repeat (first | (refine sR ?_; simp) | (refine sC ?_; simp) | (refine sX ?_; simp only [AU, ↓reduceIte]))
  refine Stop.of_d (hbi _ _) ?_
  simp
  try (simp)
  repeat (first | (refine sR ?_; simp) | (refine sC ?_; simp) | (refine sX ?_; simp only [AU, ↓reduceIte]))
  refine sN ?_
  refine AL.loopT (stBm t i L own nb box tok' nt') (fun j => j ≤ L.length) (fun j => L.length - j) 0 (Nat.zero_le _) (Weaks.mk htk.le rfl (by simp [ToL, lk]) (by simp [BoxL, lk, mkB_nil])) ?_
  rintro j S hj hS
  simp only [stBm] at hS
  subst hS
  have hwj := sW (i := j) (by omega)
  by_cases hlj : j < L.length
  ·obtain ⟨v0, v1⟩ := hLn _ (List.getElem_mem hlj)
   have hset : (mkB t.nodes.length (L.take j)).set L[j].toNat true = mkB t.nodes.length (L.take (j + 1)) := by
    rw [mkB_set v0, ← List.take_succ_eq_append_getElem hlj]
   have hml := mkB_len t.nodes.length (L.take j)
   have v2 : L[j].toNat < t.nodes.length := by omega
   try (simp [hlj, v0, v1, v2, hml, hwj])
   repeat (first | (refine sR ?_; simp [hlj, v0, v1, v2, hml, hwj]) | (refine sC ?_; simp [hlj, v0, v1, v2, hml, hwj]) | (refine sX ?_; simp only [AU, ↓reduceIte]))
   refine sE ?_
   exact ⟨j + 1, hlj, by omega, Weaks.mk htk.le rfl (by simp [ToL, lk]) (by simp [BoxL, lk, hset])⟩
  ·have : j = L.length := by omega
   subst this
   rw [List.take_length, hrow]
   refine sR ?_
   simp
   refine sC ?_
   simp
   refine sX ?_
   simp only [AU, ↓reduceIte]
   have hrl : (isRow t i).length = t.nodes.length := by simp [isRow]
   refine AL.weak (Weaks.frz (l' := [(5, .d (blB (isRow t i))), (13, I i), (12, I t.nodes.length), (11, .d (nts t.nodes)), (3, .osl 1 (isRs t i) own), (1, .ptr (nb + 1) 0 0)]) (loc' := [(1, [[.d (nts t.nodes), .d (ets t.edges)]])]) 19 1 ((isRow t i).map fun b => [D.raw (.bool b)]) htk.le rfl (by simp [lk, rowsB_eq]) (by simp [lk]) (fun e he => by obtain ⟨b, _, rfl⟩ := List.mem_map.1 he; rfl) (by simp [ToL, lk, lb_at]; exact to_frzW hrl) (by simp [BoxL, lk])) ?_
   try (simp)
   repeat (first | (refine sR ?_; simp) | (refine sC ?_; simp) | (refine sX ?_; simp only [AU, ↓reduceIte]))
   refine ⟨⟨by omega, htk.live⟩, ?_⟩
   try (simp [hw])
   repeat (first | (refine sR ?_; simp [hw]) | (refine sC ?_; simp [hw]) | (refine sX ?_; simp only [AU, ↓reduceIte]))
   refine sE ?_
   exact ⟨⟨i + 1, _, _, _⟩, ⟨hlt, htk.app⟩, by simp only; omega, Weaks.mk htk.app.le rfl (by simp [ToL, lk, hs]) (by simp [BoxL, lk])⟩
 ·have : i = t.nodes.length := by omega
  subst this
  have htl : isRs t t.nodes.length = (isTb t).map fun r => [blB r] := by unfold isRs; rw [List.take_of_length_le (by simp [isTb])]
  rw [htl]
  try (simp)
  repeat (first | (refine sR ?_; simp) | (refine sC ?_; simp) | (refine sX ?_; simp only [AU, ↓reduceIte]))
  refine sN ?_
  refine AL.ret ?_
  try simp only [AU]
  exact ⟨by simp, Fin.data (av := .d (isD t)) (by simp [resAs, resA]; rfl) hbox rfl htok htk.old htk.le (by simp [packA, isD])⟩
theorem within1_c (x : Int) (box : Bxs) (nb k : Nat) (tok : Tks) (nt : Nat) (t : Ty) (hk : box k = some [[.d (nts t.nodes), .d (ets t.edges)]]) :
  ACalls Tryz.prog 283 [I x, .ptr k 0 0] ⟨box, nb, tok, nt⟩ fun v m => v = B (decide ((t.nodes.length : Int) ≤ x)) ∧ m = ⟨box, nb, tok, nt⟩ := by
 refine sB Tryz.func283 Tryz.ntmps283 ?_
 intro hbox htok
 simp only at hbox htok
 apply AL.start
 have kn := key_lt hbox hk
 try (simp [lb_out kn, hk])
 repeat (refine sR ?_; simp [lb_out kn, hk])
 refine sT ?_
 try simp only [AU]
 refine ⟨by simp, sF hbox htok (fun _ h => h) (Nat.le_refl _) ?_⟩
 simp [packA]
theorem within2_c (x : E) (box : Bxs) (nb k : Nat) (tok : Tks) (nt : Nat) (t : Ty) (hk : box k = some [[.d (nts t.nodes), .d (ets t.edges)]]) :
  ACalls Tryz.prog 284 [.agg [I x.ty, I x.fr, I x.to], .ptr k 0 0] ⟨box, nb, tok, nt⟩ fun v m => v = B (decide ((t.edges.length : Int) ≤ x.ty)) ∧ m = ⟨box, nb, tok, nt⟩ := by
 refine sB Tryz.func284 Tryz.ntmps284 ?_
 intro hbox htok
 simp only at hbox htok
 apply AL.start
 have kn := key_lt hbox hk
 try (simp [lb_out kn, hk])
 repeat (refine sR ?_; simp [lb_out kn, hk])
 refine sT ?_
 try simp only [AU]
 refine ⟨by simp, sF hbox htok (fun _ h => h) (Nat.le_refl _) ?_⟩
 simp [packA]
def wiN (t : Ty) (x : Int) : Bool := decide ((t.nodes.length : Int) ≤ x)
def wiX (t : Ty) (x : E) : Bool := decide ((t.edges.length : Int) ≤ x.ty)
theorem typG_wi {t : Ty} {g : Gr} (hv : validG g = 0) : typG t g = (!anyB (wiN t) g.nodes && !anyB (wiX t) g.edges) := by
 obtain ⟨_, h1, h2⟩ := validG_types hv
 unfold typG anyB
 congr 1
 ·rw [Bool.eq_iff_iff, List.all_eq_true, Bool.not_eq_true', List.any_eq_false]
  refine ⟨fun h x hx => ?_, fun h x hx => ?_⟩
  ·have := h x hx
   simp [typN, wiN] at this ⊢
   omega
  ·have a := h x hx
   have b := h1 x hx
   simp [typN, wiN, withinB] at a b ⊢
   omega
 ·rw [Bool.eq_iff_iff, List.all_eq_true, Bool.not_eq_true', List.any_eq_false]
  refine ⟨fun h x hx => ?_, fun h x hx => ?_⟩
  ·have := h x hx
   simp [typX, wiX] at this ⊢
   omega
  ·have a := h x hx
   have b := h2 x hx
   simp [typX, wiX, fitsB, withinB] at a b ⊢
   omega
theorem withinF_c (t : Ty) (ht : t.Fit) (g : Gr) (hg : g.Fit) (hv : validG g = 0) (tok : Tks) (nt : Nat) : DCall Tryz.prog 239 [t.av, g.av] tok nt (B (typG t g)) tok nt := by
 intro box nb
 have h1 := fun y box nb k tok nt hbk => within1_c y box nb k tok nt t hbk
 have h2 := fun y box nb k tok nt hbk => within2_c y box nb k tok nt t hbk
 rw [typG_wi hv]
 obtain ⟨p, hp⟩ : ∃ p, wiN t = p := ⟨_, rfl⟩
 obtain ⟨q, hq⟩ : ∃ q, wiX t = q := ⟨_, rfl⟩
 have e1 : ∀ y, decide ((t.nodes.length : Int) ≤ y) = p y := fun y => by rw [← hp]; rfl
 have e2 : ∀ y : E, decide ((t.edges.length : Int) ≤ y.ty) = q y := fun y => by rw [← hq]; rfl
 simp only [e1] at h1
 simp only [e2] at h2
 rw [hp, hq]
 have hgn := hg.n
 have hge := hg.e
 refine sB Tryz.func239 Tryz.ntmps239 ?_
 intro hbox htok
 simp only at hbox htok
 apply AL.start
 try (simp)
 repeat (refine sR ?_; simp)
 refine Stop.of_b (containsFunc_c g.nodes 283 [.ptr (nb + 2) 0 0] p hgn _ _ _ _ (fun c hc => by rw [List.mem_singleton.1 hc]; simp [lb_at]) (fun y hy box' nb' he => h1 y box' nb' _ _ _ (he _ _ (by simp [lb_at])))) ?_
 simp
 cases c1 : anyB p g.nodes
 ·try (simp)
  repeat (refine sR ?_; simp)
  refine Stop.of_b (containsFuncE_c g.edges 284 [.ptr (nb + 2) 0 0] q hge _ _ _ _ (fun c hc => by rw [List.mem_singleton.1 hc]; simp [lb_at]) (fun y hy box' nb' he => h2 y box' nb' _ _ _ (he _ _ (by simp [lb_at])))) ?_
  simp
  try (simp)
  repeat (refine sR ?_; simp)
  refine sT ?_
  try simp only [AU]
  refine ⟨by simp, sF hbox htok (fun _ h => h) (Nat.le_refl _) ?_⟩
  simp [packA]
 ·try (simp)
  repeat (refine sR ?_; simp)
  refine sT ?_
  try simp only [AU]
  refine ⟨by simp, sF hbox htok (fun _ h => h) (Nat.le_refl _) ?_⟩
  simp [packA]
end Go.AM
namespace Go.AM
open Go Go.Proofs
def QFo (s : Sr) (fm : Nat) (box : Bxs) (nb : Nat) (tok : Tks) (nt : Nat) (v : AV) (m : AMem) : Prop :=
 ∃ own' tok' nt', v = .osl 2 (mosR (s.fnP fm s.p.nodes.length [] [])) own' ∧ m = ⟨box, nb, tok', nt'⟩ ∧ TK tok nt tok' nt' [own']
set_option maxRecDepth 100000 in
theorem foundF_c (s : Sr) (h : s.Ok) (h0 : tyE s.t = 0) (nl : Bool) (hnl : s.Nl nl) (fm : Nat) (hfm : fm ≤ 1000000) (box : Bxs) (nb : Nat) (tok : Tks) (nt : Nat) :
  ACalls Tryz.prog 240 [s.t.av, s.p.av, s.g.av, .agg [.d (ptD nl s.pt.nodes), .d (ptD nl s.pt.edges)], B s.inj, I fm] ⟨box, nb, tok, nt⟩ (QFo s fm box nb tok nt) := by
 have hb := belowF_c s.t h.t h0
 refine sB Tryz.func240 Tryz.ntmps240 ?_
 intro hbox htok
 simp only at hbox htok
 apply AL.start
 try (simp)
 repeat (refine sR ?_; simp)
 refine Stop.of_d (hb _ _) ?_
 simp
 refine AL.weak (Weaks.mk (l' := [(13, .ptr (nb + 22) 0 0)]) (loc' := [(22, [[.d (ints s.p.nodes), .d (AM.edges s.p.edges), .d (ints s.g.nodes), .d (AM.edges s.g.edges), .d (isD s.t), .d (ptD nl s.pt.nodes), .d (ptD nl s.pt.edges), B s.inj, I fm, .osl 0 [] .full, .osl 0 [] .full, .osl 2 [] .full]])]) (Nat.le_refl _) rfl (by simp [ToL, lk]) (by simp [BoxL, lk])) ?_
 refine AL.trans (Trans.opn (l' := [(13, .ptr (nb + 22) 0 0)]) (loc' := [(22, [[.d (ints s.p.nodes), .d (AM.edges s.p.edges), .d (ints s.g.nodes), .d (AM.edges s.g.edges), .d (isD s.t), .d (ptD nl s.pt.nodes), .d (ptD nl s.pt.edges), B s.inj, I fm, .stk nt 1 [], .osl 0 [] .full, .osl 2 [] .full]])]) 1 (by simp [CvL]) ⟨rfl, cvRs_one (cvR_cons .same (cvR_cons .same (cvR_cons .same (cvR_cons .same (cvR_cons .same (cvR_cons .same (cvR_cons .same (cvR_cons .same (cvR_cons .same (cvR_cons .nil (cvR_cons .same (cvR_cons .same cvR_nil)))))))))))), trivial⟩) ?_
 refine AL.trans (Trans.opn (l' := [(13, .ptr (nb + 22) 0 0)]) (loc' := [(22, [[.d (ints s.p.nodes), .d (AM.edges s.p.edges), .d (ints s.g.nodes), .d (AM.edges s.g.edges), .d (isD s.t), .d (ptD nl s.pt.nodes), .d (ptD nl s.pt.edges), B s.inj, I fm, .stk nt 1 [], .stk (nt + 1) 1 [], .osl 2 [] .full]])]) 1 (by simp [CvL]) ⟨rfl, cvRs_one (cvR_cons .same (cvR_cons .same (cvR_cons .same (cvR_cons .same (cvR_cons .same (cvR_cons .same (cvR_cons .same (cvR_cons .same (cvR_cons .same (cvR_cons .same (cvR_cons .nil (cvR_cons .same cvR_nil)))))))))))), trivial⟩) ?_
 have htk0 := (TK.start htok).full.full.full.app.swap.app.swap
 try (simp)
 repeat (refine sR ?_; simp)
 refine Stop.of_a (findN_c s h nl hnl fm hfm tok nt s.p.nodes.length [] [] nt (nt + 1) .full _ _ (nb + 22) _ _ (by simp) (by simp) (by simp [lb_at]) htk0) ?_
 rintro v m' ⟨rfl, a, b, own, tok2, nt2, rfl, htk2, hle⟩
 try (simp)
 repeat (first | (refine sR ?_; simp) | (refine sC ?_; simp) | (refine sX ?_; simp only [AU, ↓reduceIte]))
 refine sN ?_
 refine AL.ret ?_
 try simp only [AU]
 have htk3 := htk2.tail.tail
 exact ⟨by simp, (Fin.gen (av := .osl 2 (mosR (s.fnP fm s.p.nodes.length [] [])) own) (tok' := tok2) (nt' := nt2) (by simp [resAs, resA]; rfl) hbox htk3.le (Nat.le_refl _) (fun t h => ⟨h, .inl rfl⟩) (fun k rows _ h => .inl h) (by simp [packA])).mono fun v m hq => ⟨own, tok2, nt2, hq.1, hq.2, htk3⟩⟩
def stVf (t : Ty) (p g : Gr) (nb : Nat) (box : Bxs) (tok : Tks) (nt : Nat) (i : Nat) : AState :=
 ⟨tl [(24, I i), (23, I 2), (22, .d (.sl 2 [[ints p.nodes, AM.edges p.edges], [ints g.nodes, AM.edges g.edges]])), (5, .ptr (nb + 5) 0 0), (4, .ptr (nb + 4) 0 0), (3, .ptr (nb + 3) 0 0)], lb nb box [(5, [[.d (ints g.nodes), .d (AM.edges g.edges)]]), (4, [[.d (ints p.nodes), .d (AM.edges p.edges)]]), (3, [[.d (nts t.nodes), .d (ets t.edges)]])], tok, nt⟩
theorem validF_c (t : Ty) (ht : t.Fit) (p g : Gr) (hp : p.Fit) (hg : g.Fit) (tok : Tks) (nt : Nat) : DCall Tryz.prog 178 [t.av, p.av, g.av] tok nt (I (givS t p g)) tok nt := by
 intro box nb
 have hv := valid_c4 t ht ht.hM
 have h1 := graphValid_c p hp
 have h2 := graphValid_c g hg
 have h3 := withinF_c t ht p hp
 have h4 := withinF_c t ht g hg
 obtain ⟨R, hR⟩ : ∃ R, givS t p g = R := ⟨_, rfl⟩
 rw [hR]
 unfold givS at hR
 generalize tyE t = E at *
 generalize validG p = V at *
 generalize validG g = W at *
 refine sB Tryz.func178 Tryz.ntmps178 ?_
 intro hbox htok
 simp only at hbox htok
 apply AL.start
 try (simp)
 repeat (refine sR ?_; simp)
 refine Stop.of_d (hv _ _) ?_
 simp
 by_cases e0 : E = 0
 ·rw [if_neg (by simp [e0])] at hR
  try (simp [e0])
  repeat (first | (refine sR ?_; simp [e0]) | (refine sC ?_; simp [e0]) | (refine sX ?_; simp only [AU, ↓reduceIte]))
  refine ⟨rfl, ?_⟩
  try (simp)
  repeat (first | (refine sR ?_; simp) | (refine sC ?_; simp) | (refine sX ?_; simp only [AU, ↓reduceIte]))
  refine sN ?_
  refine AL.loopT (stVf t p g nb box tok nt) (fun i => i ≤ 2 ∧ (1 ≤ i → V = 0) ∧ (2 ≤ i → W = 0)) (fun i => 2 - i) 0 ⟨by omega, by omega, by omega⟩ (Weaks.mk (Nat.le_refl _) rfl (by simp [ToL, lk]) (by simp [BoxL, lk])) ?_
  rintro i S ⟨hi, g0, g1⟩ hS
  simp only [stVf] at hS
  subst hS
  have h012 : i = 0 ∨ i = 1 ∨ i = 2 := by omega
  rcases h012 with rfl | rfl | rfl
  ·try (simp)
   repeat (first | (refine sR ?_; simp) | (refine sC ?_; simp) | (refine sX ?_; simp only [AU, ↓reduceIte]))
   refine Stop.of_d (h1 _ _) ?_
   simp
   by_cases c : V = 0
   ·try (simp [c, show IntKind.i64.wrap 1 = 1 from rfl])
    repeat (first | (refine sR ?_; simp [c, show IntKind.i64.wrap 1 = 1 from rfl]) | (refine sC ?_; simp [c, show IntKind.i64.wrap 1 = 1 from rfl]) | (refine sX ?_; simp only [AU, ↓reduceIte]))
    refine sE ?_
    exact ⟨1, ⟨by omega, fun h => by omega⟩, by decide, Weaks.mk (Nat.le_refl _) rfl (by simp [ToL, lk]) (by simp [BoxL, lk])⟩
   ·have b : (V != 0) = true := by simp [c]
    rw [if_pos c] at hR
    try (simp [b])
    repeat (first | (refine sR ?_; simp [b]) | (refine sC ?_; simp [b]) | (refine sX ?_; simp only [AU, ↓reduceIte]))
    refine sT ?_
    try simp only [AU]
    refine ⟨by simp, sF hbox htok (fun _ h => h) (Nat.le_refl _) ?_⟩
    simp [packA, hR]
  ·try (simp)
   repeat (first | (refine sR ?_; simp) | (refine sC ?_; simp) | (refine sX ?_; simp only [AU, ↓reduceIte]))
   refine Stop.of_d (h2 _ _) ?_
   simp
   by_cases c : W = 0
   ·try (simp [c, show IntKind.i64.wrap 2 = 2 from rfl])
    repeat (first | (refine sR ?_; simp [c, show IntKind.i64.wrap 2 = 2 from rfl]) | (refine sC ?_; simp [c, show IntKind.i64.wrap 2 = 2 from rfl]) | (refine sX ?_; simp only [AU, ↓reduceIte]))
    refine sE ?_
    exact ⟨2, ⟨by omega, fun _ => g0 (by omega)⟩, by decide, Weaks.mk (Nat.le_refl _) rfl (by simp [ToL, lk]) (by simp [BoxL, lk])⟩
   ·have b : (W != 0) = true := by simp [c]
    have g0 := g0 (by omega)
    rw [if_neg (by simp [g0]), if_pos c] at hR
    try (simp [b])
    repeat (first | (refine sR ?_; simp [b]) | (refine sC ?_; simp [b]) | (refine sX ?_; simp only [AU, ↓reduceIte]))
    refine sT ?_
    try simp only [AU]
    refine ⟨by simp, sF hbox htok (fun _ h => h) (Nat.le_refl _) ?_⟩
    simp [packA, hR]
  ·have g0 := g0 (by omega)
   have g1 := g1 (by omega)
   rw [if_neg (by simp [g0]), if_neg (by simp [g1])] at hR
   have h3 := h3 g0
   have h4 := h4 g1
   try (simp)
   repeat (first | (refine sR ?_; simp) | (refine sC ?_; simp) | (refine sX ?_; simp only [AU, ↓reduceIte]))
   refine Stop.of_d (h3 _ _) ?_
   simp
   cases e3 : typG t p
   ·rw [e3, if_pos rfl] at hR
    try (simp)
    repeat (first | (refine sR ?_; simp) | (refine sC ?_; simp) | (refine sX ?_; simp only [AU, ↓reduceIte]))
    refine sT ?_
    try simp only [AU]
    refine ⟨by simp, sF hbox htok (fun _ h => h) (Nat.le_refl _) ?_⟩
    simp [packA, hR]
   ·rw [e3, if_neg (by simp)] at hR
    try (simp)
    repeat (first | (refine sR ?_; simp) | (refine sC ?_; simp) | (refine sX ?_; simp only [AU, ↓reduceIte]))
    refine Stop.of_d (h4 _ _) ?_
    simp
    cases e4 : typG t g
    ·rw [e4, if_pos rfl] at hR
     try (simp)
     repeat (first | (refine sR ?_; simp) | (refine sC ?_; simp) | (refine sX ?_; simp only [AU, ↓reduceIte]))
     refine sT ?_
     try simp only [AU]
     refine ⟨by simp, sF hbox htok (fun _ h => h) (Nat.le_refl _) ?_⟩
     simp [packA, hR]
    ·rw [e4, if_neg (by simp)] at hR
     try (simp)
     repeat (first | (refine sR ?_; simp) | (refine sC ?_; simp) | (refine sX ?_; simp only [AU, ↓reduceIte]))
     refine sT ?_
     try simp only [AU]
     refine ⟨by simp, sF hbox htok (fun _ h => h) (Nat.le_refl _) ?_⟩
     simp [packA, hR]
 ·rw [if_pos e0] at hR
  have b : (E != 0) = true := by simp [e0]
  try (simp [b])
  repeat (first | (refine sR ?_; simp [b]) | (refine sC ?_; simp [b]) | (refine sX ?_; simp only [AU, ↓reduceIte]))
  refine sT ?_
  try simp only [AU]
  refine ⟨by simp, sF hbox htok (fun _ h => h) (Nat.le_refl _) ?_⟩
  simp [packA, hR]
theorem opM_nl {t : Ty} {p g : Gr} {inj : Bool} : (allSr t p g inj).Nl true := by
 constructor
 ·intro _ x hx
  exact List.eq_of_mem_replicate hx
 ·intro _ x hx
  exact List.eq_of_mem_replicate hx
def QAl (s : Sr) (box : Bxs) (nb : Nat) (tok : Tks) (nt : Nat) (L : List Mo) (v : AV) (m : AMem) : Prop :=
 m = ⟨box, nb, tok, nt⟩ ∧ (5000 < L.length ∧ v = .tup [.osl 0 [] .full, I 3] ∨ ¬ 5000 < L.length ∧ v = .tup [.d (.sl 2 (mosR L)), I 0])
set_option maxRecDepth 100000 in
theorem allF_c (s : Sr) (h : s.Ok) (h0 : tyE s.t = 0) (nl : Bool) (hnl : s.Nl nl) (hm : s.most = 5000) (tok : Tks) (nt : Nat) :
  ∀ box nb, ACalls Tryz.prog 179 [s.t.av, s.p.av, s.g.av, .agg [.d (ptD nl s.pt.nodes), .d (ptD nl s.pt.edges)], B s.inj] ⟨box, nb, tok, nt⟩ (QAl s box nb tok nt (s.fnR s.p.nodes.length [] [])) := by
 intro box nb
 have hf := s.fnP_fnR h
 rw [hm] at hf
 have hfo := foundF_c s h h0 nl hnl 5001 (by omega)
 have hln : (s.fnP 5001 s.p.nodes.length [] []).length ≤ 5001 := Sr.fnP_len h (by simp)
 rw [← hf]
 refine sB Tryz.func179 Tryz.ntmps179 ?_
 intro hbox htok
 simp only at hbox htok
 apply AL.start
 try (simp)
 repeat (refine sR ?_; simp)
 refine Stop.of_a (hfo _ _ _ _) ?_
 rintro v m' ⟨own, tok2, nt2, rfl, rfl, htk⟩
 generalize s.fnP 5001 s.p.nodes.length [] [] = L at *
 by_cases hbig : 5000 < L.length
 ·have b : decide ((5000 : Int) < (L.length : Int)) = true := by simp; omega
  try (simp [b])
  repeat (first | (refine sR ?_; simp [b]) | (refine sC ?_; simp [b]) | (refine sX ?_; simp only [AU, ↓reduceIte]))
  refine sN ?_
  refine AL.ret ?_
  try simp only [AU]
  exact ⟨by simp, (Fin.data (av := .tup [.osl 0 [] .full, I 3]) (by simp [resAs, resA]; rfl) hbox rfl htok htk.old htk.le (by simp [packA])).mono fun v m hq => ⟨hq.2, .inl ⟨hbig, hq.1⟩⟩⟩
 ·have b : decide ((5000 : Int) < (L.length : Int)) = false := by simp; omega
  try (simp [b])
  repeat (first | (refine sR ?_; simp [b]) | (refine sC ?_; simp [b]) | (refine sX ?_; simp only [AU, ↓reduceIte]))
  refine sN ?_
  refine AL.ret ?_
  try simp only [AU]
  exact ⟨by simp, (Fin.data (av := .tup [.d (.sl 2 (mosR L)), I 0]) (by simp [resAs, resA]; rfl) hbox rfl htok htk.old htk.le (by simp [packA])).mono fun v m hq => ⟨hq.2, .inr ⟨hbig, hq.1⟩⟩⟩
set_option maxRecDepth 100000 in
theorem allF2_c (t : Ty) (ht : t.Fit) (p g : Gr) (hp : p.Fit) (hg : g.Fit) (inj : Bool) (tok : Tks) (nt : Nat) : DCall Tryz.prog 109 [t.av, p.av, g.av, B inj] tok nt (.tup [.d (.sl 2 (mosR (allS t p g inj).1)), I (allS t p g inj).2]) tok nt := by
 intro box nb
 have hv := validF_c t ht p g hp hg
 have main : ACalls Tryz.prog 109 [t.av, p.av, g.av, B inj] ⟨box, nb, tok, nt⟩ fun v m => (v = .tup [.d (.sl 2 (mosR (allS t p g inj).1)), I (allS t p g inj).2] ∨ (allS t p g inj).1 = [] ∧ v = .tup [.osl 0 [] .full, I (allS t p g inj).2]) ∧ m = ⟨box, nb, tok, nt⟩ := by
  refine sB Tryz.func109 Tryz.ntmps109 ?_
  intro hbox htok
  simp only at hbox htok
  apply AL.start
  try (simp)
  repeat (refine sR ?_; simp)
  refine Stop.of_d (hv _ _) ?_
  simp
  by_cases c1 : givS t p g = 0
  ·have hok := allSr_ok (inj := inj) ht hp hg c1
   have h0 : tyE t = 0 := by
    unfold givS at c1
    split at c1
    ·rename_i e; exact absurd c1 e
    ·rename_i e; simpa using e
   have hR : allS t p g inj = if 5000 < (allL t p g inj).length then ([], 3) else (allL t p g inj, 0) := by unfold allS; rw [if_neg (by simp [c1])]
   have hall := allF_c (allSr t p g inj) hok h0 true opM_nl rfl
   have hL : (allSr t p g inj).fnR (allSr t p g inj).p.nodes.length [] [] = allL t p g inj := rfl
   rw [hL] at hall
   try (simp [c1])
   repeat (first | (refine sR ?_; simp [c1]) | (refine sC ?_; simp [c1]) | (refine sX ?_; simp only [AU, ↓reduceIte]))
   refine Stop.sub (args' := [t.av, p.av, g.av, .agg [.d (.raw nilV), .d (.raw nilV)], B inj]) ⟨Sub.refl _, Sub.refl _, Sub.refl _, Sub.agg ⟨Sub.nilv, Sub.nilv, trivial⟩, Sub.refl _, trivial⟩ ?_
   refine Stop.of_a (hall _ _ _ _) ?_
   generalize allL t p g inj = L at *
   rintro v m' ⟨rfl, ⟨hb, rfl⟩ | ⟨hb, rfl⟩⟩
   ·rw [if_pos hb] at hR
    try (simp)
    repeat (first | (refine sR ?_; simp) | (refine sC ?_; simp) | (refine sX ?_; simp only [AU, ↓reduceIte]))
    refine sN ?_
    refine AL.ret ?_
    try simp only [AU]
    exact ⟨by simp, (Fin.data (av := .tup [.osl 0 [] .full, I 3]) (by simp [resAs, resA]; rfl) hbox rfl htok (fun _ h => h) (Nat.le_refl _) (by simp [packA])).mono fun v m hq => ⟨.inr ⟨by rw [hR], by rw [hR, hq.1]⟩, hq.2⟩⟩
   ·rw [if_neg hb] at hR
    try (simp)
    repeat (first | (refine sR ?_; simp) | (refine sC ?_; simp) | (refine sX ?_; simp only [AU, ↓reduceIte]))
    refine sN ?_
    refine AL.ret ?_
    try simp only [AU]
    exact ⟨by simp, (Fin.data (av := .tup [.d (.sl 2 (mosR L)), I 0]) (by simp [resAs, resA]; rfl) hbox rfl htok (fun _ h => h) (Nat.le_refl _) (by simp [packA])).mono fun v m hq => ⟨.inl (by rw [hR, hq.1]), hq.2⟩⟩
  ·have hR : allS t p g inj = ([], givS t p g) := by unfold allS; rw [if_pos c1]
   try (simp [c1])
   repeat (first | (refine sR ?_; simp [c1]) | (refine sC ?_; simp [c1]) | (refine sX ?_; simp only [AU, ↓reduceIte]))
   refine sN ?_
   refine AL.ret ?_
   try simp only [AU]
   exact ⟨by simp, (Fin.data (av := .tup [.osl 0 [] .full, I (givS t p g)]) (by simp [resAs, resA]; rfl) hbox rfl htok (fun _ h => h) (Nat.le_refl _) (by simp [packA])).mono fun v m hq => ⟨.inr ⟨by rw [hR], by rw [hR, hq.1]⟩, hq.2⟩⟩
 refine main.conv fun v m h => ?_
 obtain ⟨rfl | ⟨h1, rfl⟩, rfl⟩ := h
 ·exact ⟨_, _, Conv.refl _ _, rfl, rfl⟩
 ·refine ⟨_, _, Conv.sub (v' := .tup [.d (.sl 2 (mosR (allS t p g inj).1)), I (allS t p g inj).2]) (Sub.tup ⟨?_, Sub.refl _, trivial⟩), rfl, rfl⟩
  rw [h1]
  exact Sub.nil _ _ _
end Go.AM
namespace Go.AM
open Go Go.Proofs
end Go.AM
namespace Go.AM
open Go Go.Proofs
theorem shpE_kind {c : Co} (h : shpE c = 0) : c.kind = 1 ∨ c.kind = 2 := by
 have h2 := (shpE_zero h).2.1
 unfold kdE at h2
 split at h2
 ·left; assumption
 ·split at h2
  ·right; assumption
  ·cases h2
theorem noMoSub : Sub (.agg [nilS, nilS]) (Mo.mk [] []).av := Sub.agg ⟨Sub.nil _ _ _, Sub.nil _ _ _, trivial⟩
end Go.AM
namespace Go.AM
open Go Go.Proofs
end Go.AM
namespace Go.AM
open Go Go.Proofs
end Go.AM
namespace Go.AM
open Go Go.Proofs
def vioB (c : Co) (xt : Mo → Bool) (m : Mo) : Bool := if c.kind = 1 then true else !xt m
def vioK (c : Co) (xt : Mo → Bool) (l : List Mo) (i : Nat) : List Mo := (l.take i).filter (vioB c xt)
def vioS (t : Ty) (c : Co) (g : Gr) (xt : Mo → Bool) : List Mo × Int :=
 if cnE t c ≠ 0 then ([], cnE t c) else if (allS t c.g g true).2 ≠ 0 then ([], (allS t c.g g true).2) else ((allS t c.g g true).1.filter (vioB c xt), 0)
theorem vioK_succ {c : Co} {xt : Mo → Bool} {l : List Mo} {i : Nat} (h : i < l.length) : vioK c xt l (i + 1) = vioK c xt l i ++ if vioB c xt l[i] = true then [l[i]] else [] := by
 unfold vioK
 rw [List.take_succ_eq_append_getElem h, List.filter_append]
 congr 1
 by_cases e : vioB c xt l[i] = true <;> simp [e]
theorem vioK_len (c : Co) (xt : Mo → Bool) (l : List Mo) (i : Nat) : (vioK c xt l i).length ≤ i := Nat.le_trans (List.length_filter_le _ _) (by simp; omega)
theorem allS_len (t : Ty) (p g : Gr) (inj : Bool) : (allS t p g inj).1.length ≤ 5000 := by
 unfold allS
 split
 ·simp
 ·split
  ·simp
  ·simp only; omega
end Go.AM
namespace Go.AM
open Go Go.Proofs
def stVk (t : Ty) (c : Co) (g : Gr) (L : List Mo) (xt : Mo → Bool) (nb : Nat) (box : Bxs) (x : Acc) : AState :=
 ⟨tl [(33, I x.i), (32, I L.length), (31, .d (.sl 2 (mosR L))), (11, .osl 2 (mosR (vioK c xt L x.i)) x.own), (5, .ptr (nb + 5) 0 0), (4, .ptr (nb + 4) 0 0), (3, .ptr (nb + 3) 0 0)], lb nb box [(5, [[.d (ints g.nodes), .d (AM.edges g.edges)]]), (4, [c.row]), (3, [[.d (nts t.nodes), .d (ets t.edges)]])], x.tok, x.nt⟩
theorem violationsK_c (t : Ty) (ht : t.Fit) (c : Co) (hc : c.Fit) (g : Gr) (hg : g.Fit) (xt : Mo → Bool)
  (hx : c.kind ≠ 1 → ∀ m ∈ (allS t c.g g true).1, ∀ tok nt, DCall Tryz.prog 110 [t.av, c.av, g.av, m.av] tok nt (B (xt m)) tok nt) (tok : Tks) (nt : Nat) :
  DCall Tryz.prog 47 [t.av, c.av, g.av] tok nt (.tup [.d (.sl 2 (mosR (vioS t c g xt).1)), I (vioS t c g xt).2]) tok nt := by
 intro box nb
 have hv := validK_c t ht c hc
 have hA := allF2_c t ht c.g g hc.g hg true
 have main : ACalls Tryz.prog 47 [t.av, c.av, g.av] ⟨box, nb, tok, nt⟩ fun v m => (v = .tup [.d (.sl 2 (mosR (vioS t c g xt).1)), I (vioS t c g xt).2] ∨ (vioS t c g xt).1 = [] ∧ v = .tup [.osl 0 [] .full, I (vioS t c g xt).2]) ∧ m = ⟨box, nb, tok, nt⟩ := by
  refine sB Tryz.func47 Tryz.ntmps47 ?_
  intro hbox htok
  simp only at hbox htok
  apply AL.start
  try (simp)
  repeat (refine sR ?_; simp)
  refine Stop.of_d (hv _ _) ?_
  simp
  by_cases c1 : cnE t c = 0
  ·try (simp [c1])
   repeat (first | (refine sR ?_; simp [c1]) | (refine sC ?_; simp [c1]) | (refine sX ?_; simp only [AU, ↓reduceIte]))
   refine Stop.of_d (hA _ _) ?_
   simp
   by_cases c2 : (allS t c.g g true).2 = 0
   ·try (simp [c2])
    repeat (first | (refine sR ?_; simp [c2]) | (refine sC ?_; simp [c2]) | (refine sX ?_; simp only [AU, ↓reduceIte]))
    refine sN ?_
    have hR : vioS t c g xt = ((allS t c.g g true).1.filter (vioB c xt), 0) := by unfold vioS; rw [if_neg (by simp [c1]), if_neg (by simp [c2])]
    have hL := allS_len t c.g g true
    generalize (allS t c.g g true).1 = L at *
    refine AL.loopT (stVk t c g L xt nb box) (fun x => x.i ≤ L.length ∧ TK tok nt x.tok x.nt [x.own]) (fun x => L.length - x.i) ⟨0, .full, tok, nt⟩ ⟨Nat.zero_le _, (TK.start htok).full⟩ (Weaks.mk (Nat.le_refl _) rfl (by simp [ToL, lk, vioK]) (by simp [BoxL, lk])) ?_
    rintro ⟨i, own, tok', nt'⟩ S ⟨hi, htk⟩ hS
    simp only [stVk] at hS hi htk
    subst hS
    have hw := sW (i := i) (by omega)
    have hln := vioK_len c xt L i
    by_cases hlt : i < L.length
    ·have hs := vioK_succ (c := c) (xt := xt) hlt
     by_cases k1 : c.kind = 1
     ·have b : (c.kind == 1) = true := by simp [k1]
      rw [if_pos (by simp [vioB, k1])] at hs
      try (simp [hlt, b])
      repeat (first | (refine sR ?_; simp [hlt, b]) | (refine sC ?_; simp [hlt, b]) | (refine sX ?_; simp only [AU, ↓reduceIte]))
      refine ⟨⟨by omega, htk.live⟩, ?_⟩
      try (simp [hw])
      repeat (first | (refine sR ?_; simp [hw]) | (refine sC ?_; simp [hw]) | (refine sX ?_; simp only [AU, ↓reduceIte]))
      refine sE ?_
      exact ⟨⟨i + 1, _, _, _⟩, ⟨hlt, htk.app⟩, by simp only; omega, Weaks.mk htk.app.le rfl (by simp [ToL, lk, hs]) (by simp [BoxL, lk])⟩
     ·have hxi := hx k1 _ (List.getElem_mem hlt)
      have b : (c.kind == 1) = false := by simp [k1]
      try (simp [hlt, b])
      repeat (first | (refine sR ?_; simp [hlt, b]) | (refine sC ?_; simp [hlt, b]) | (refine sX ?_; simp only [AU, ↓reduceIte]))
      refine Stop.of_d (hxi _ _) ?_
      cases e : xt L[i]
      ·rw [if_pos (by simp [vioB, k1, e])] at hs
       try (simp [hlt, b])
       repeat (first | (refine sR ?_; simp [hlt, b]) | (refine sC ?_; simp [hlt, b]) | (refine sX ?_; simp only [AU, ↓reduceIte]))
       refine ⟨⟨by omega, htk.live⟩, ?_⟩
       try (simp [hw])
       repeat (first | (refine sR ?_; simp [hw]) | (refine sC ?_; simp [hw]) | (refine sX ?_; simp only [AU, ↓reduceIte]))
       refine sE ?_
       exact ⟨⟨i + 1, _, _, _⟩, ⟨hlt, htk.app⟩, by simp only; omega, Weaks.mk htk.app.le rfl (by simp [ToL, lk, hs]) (by simp [BoxL, lk])⟩
      ·rw [if_neg (by simp [vioB, k1, e]), List.append_nil] at hs
       try (simp [hlt, b, hw])
       repeat (first | (refine sR ?_; simp [hlt, b, hw]) | (refine sC ?_; simp [hlt, b, hw]) | (refine sX ?_; simp only [AU, ↓reduceIte]))
       refine sE ?_
       exact ⟨⟨i + 1, _, _, _⟩, ⟨hlt, htk⟩, by simp only; omega, Weaks.mk htk.le rfl (by simp [ToL, lk, hs]) (by simp [BoxL, lk])⟩
    ·have : i = L.length := by omega
     subst this
     have hf : vioK c xt L L.length = L.filter (vioB c xt) := by simp [vioK]
     rw [hf]
     try (simp)
     repeat (first | (refine sR ?_; simp) | (refine sC ?_; simp) | (refine sX ?_; simp only [AU, ↓reduceIte]))
     refine sN ?_
     refine AL.ret ?_
     try simp only [AU]
     refine ⟨by simp, (Fin.data (av := .tup [.d (.sl 2 (mosR (L.filter (vioB c xt)))), I 0]) (by simp [resAs, resA]; rfl) hbox rfl htok htk.old htk.le (by simp [packA])).mono fun v m hq => ⟨.inl (by rw [hR, hq.1]), hq.2⟩⟩
   ·have hR : vioS t c g xt = ([], (allS t c.g g true).2) := by unfold vioS; rw [if_neg (by simp [c1]), if_pos c2]
    try (simp [c2])
    repeat (first | (refine sR ?_; simp [c2]) | (refine sC ?_; simp [c2]) | (refine sX ?_; simp only [AU, ↓reduceIte]))
    refine sN ?_
    refine AL.ret ?_
    try simp only [AU]
    refine ⟨by simp, (Fin.data (av := .tup [.osl 0 [] .full, I (allS t c.g g true).2]) (by simp [resAs, resA]; rfl) hbox rfl htok (fun _ h => h) (Nat.le_refl _) (by simp [packA])).mono fun v m hq => ⟨.inr ⟨by rw [hR], by rw [hR, hq.1]⟩, hq.2⟩⟩
  ·have hR : vioS t c g xt = ([], cnE t c) := by unfold vioS; rw [if_pos c1]
   try (simp [c1])
   repeat (first | (refine sR ?_; simp [c1]) | (refine sC ?_; simp [c1]) | (refine sX ?_; simp only [AU, ↓reduceIte]))
   refine sN ?_
   refine AL.ret ?_
   try simp only [AU]
   refine ⟨by simp, (Fin.data (av := .tup [.osl 0 [] .full, I (cnE t c)]) (by simp [resAs, resA]; rfl) hbox rfl htok (fun _ h => h) (Nat.le_refl _) (by simp [packA])).mono fun v m hq => ⟨.inr ⟨by rw [hR], by rw [hR, hq.1]⟩, hq.2⟩⟩
 refine main.conv fun v m h => ?_
 obtain ⟨rfl | ⟨h1, rfl⟩, rfl⟩ := h
 ·exact ⟨_, _, Conv.refl _ _, rfl, rfl⟩
 ·refine ⟨_, _, Conv.sub (v' := .tup [.d (.sl 2 (mosR (vioS t c g xt).1)), I (vioS t c g xt).2]) (Sub.tup ⟨?_, Sub.refl _, trivial⟩), rfl, rfl⟩
  rw [h1]
  exact Sub.nil _ _ _
end Go.AM
namespace Go.AM
open Go Go.Proofs
structure Sd where
 k : Int
 o : Bool
 near : Int
 far : Int
 low : Int
 high : Int
abbrev Sd.cells (s : Sd) : List D := [.raw (.int .i64 s.k), .raw (.bool s.o), .raw (.int .i64 s.near), .raw (.int .i64 s.far), .raw (.int .i64 s.low), .raw (.int .i64 s.high)]
abbrev Sd.av (s : Sd) : AV := .agg [I s.k, B s.o, I s.near, I s.far, I s.low, I s.high]
abbrev rSd (l : List Sd) : List (List D) := l.map Sd.cells
abbrev sds (l : List Sd) : D := .sl 6 (rSd l)
def sdTwo (e : ET) (k : Nat) : List Sd := [⟨k, true, e.fr, e.to, e.ol, e.oh⟩, ⟨k, false, e.to, e.fr, e.il, e.ih⟩]
def sdL (l : List ET) (n : Nat) : List Sd := (List.range n).flatMap fun k => match l[k]? with | some e => sdTwo e k | none => []
theorem sdL_succ {l : List ET} {n : Nat} (h : n < l.length) : sdL l (n + 1) = sdL l n ++ sdTwo l[n] n := by
 unfold sdL
 rw [List.range_succ, List.flatMap_append]
 simp [h]
theorem sdL_len {l : List ET} : ∀ {n : Nat}, n ≤ l.length → (sdL l n).length = 2 * n
 | 0, _ => rfl
 | n + 1, h => by rw [sdL_succ h, List.length_append, sdL_len (by omega)]; simp [sdTwo]; omega
def sdsR (t : Ty) : List Sd := sdL t.edges t.edges.length
def Sd.link (s : Sd) (x : Int) : E := if s.o = true then ⟨s.k, 0, x⟩ else ⟨s.k, x, 0⟩
def tIs (t : Ty) (a b : Int) : Bool := if givE t [a, b] = 0 then isB t a b else false
def endB (t : Ty) (s : Sd) (n : Nat) : Bool := if leafB t n = true then tIs t n s.far else false
def endsN (t : Ty) (s : Sd) (node : Int) (i : Nat) : List Int := (if tIs t node s.far = true then [-1] else []) ++ ((List.range i).filter (endB t s)).map fun (n : Nat) => (n : Int)
def endsR (t : Ty) (s : Sd) (node : Int) : List Int := endsN t s node t.nodes.length
theorem endsN_succ (t : Ty) (s : Sd) (node : Int) (i : Nat) : endsN t s node (i + 1) = endsN t s node i ++ (if endB t s i = true then [(i : Int)] else []) := by
 unfold endsN
 rw [List.range_succ, List.filter_append, List.map_append, List.append_assoc]
 congr 2
 by_cases h : endB t s i = true <;> simp [h]
theorem endsN_len (t : Ty) (s : Sd) (node : Int) (i : Nat) : (endsN t s node i).length ≤ i + 1 := by
 unfold endsN
 rw [List.length_append, List.length_map]
 have h1 := List.length_filter_le (endB t s) (List.range i)
 rw [List.length_range] at h1
 split
 ·simp; omega
 ·simp; omega
def stSd (t : Ty) (nb : Nat) (box : Bxs) (x : Acc) : AState :=
 ⟨tl [(9, I x.i), (8, I t.edges.length), (7, .d (ets t.edges)), (3, .osl 6 (rSd (sdL t.edges x.i)) x.own), (1, .ptr (nb + 1) 0 0)], lb nb box [(1, [[.d (nts t.nodes), .d (ets t.edges)]])], x.tok, x.nt⟩
theorem sidesP_c (t : Ty) (ht : t.Fit) (tok : Tks) (nt : Nat) : DCall Tryz.prog 100 [t.av] tok nt (.d (sds (sdsR t))) tok nt := by
 intro box nb
 have hte := ht.e
 refine sB Tryz.func100 Tryz.ntmps100 ?_
 intro hbox htok
 simp only at hbox htok
 apply AL.start
 try (simp)
 repeat (refine sR ?_; simp)
 refine sN ?_
 refine AL.loopT (stSd t nb box) (fun x => x.i ≤ t.edges.length ∧ TK tok nt x.tok x.nt [x.own]) (fun x => t.edges.length - x.i) ⟨0, .full, tok, nt⟩ ⟨Nat.zero_le _, (TK.start htok).full⟩ (Weaks.mk (Nat.le_refl _) rfl (by simp [ToL, lk, sdL]) (by simp [BoxL, lk])) ?_
 rintro ⟨i, own, tok', nt'⟩ S ⟨hi, htk⟩ hS
 simp only [stSd] at hS hi htk
 subst hS
 have hw := sW (i := i) (by omega)
 have hln := sdL_len (l := t.edges) hi
 by_cases hlt : i < t.edges.length
 ·have hs := sdL_succ hlt
  try (simp [hlt])
  repeat (first | (refine sR ?_; simp [hlt]) | (refine sC ?_; simp [hlt]) | (refine sX ?_; simp only [AU, ↓reduceIte]))
  refine ⟨rfl, ⟨by omega, htk.live⟩, ?_⟩
  try (simp [hw])
  repeat (first | (refine sR ?_; simp [hw]) | (refine sC ?_; simp [hw]) | (refine sX ?_; simp only [AU, ↓reduceIte]))
  refine sE ?_
  exact ⟨⟨i + 1, _, _, _⟩, ⟨hlt, htk.app⟩, by simp only; omega, Weaks.mk htk.app.le rfl (by simp [ToL, lk, hs, sdTwo]) (by simp [BoxL, lk])⟩
 ·have : i = t.edges.length := by omega
  subst this
  try (simp)
  repeat (first | (refine sR ?_; simp) | (refine sC ?_; simp) | (refine sX ?_; simp only [AU, ↓reduceIte]))
  refine sN ?_
  refine AL.ret ?_
  try simp only [AU]
  exact ⟨by simp, Fin.data (av := .d (sds (sdsR t))) (by simp [resAs, resA]; rfl) hbox rfl htok htk.old htk.le (by simp [packA, sdsR])⟩
theorem linkP_c (s : Sd) (x : Int) (tok : Tks) (nt : Nat) : DCall Tryz.prog 173 [s.av, I x] tok nt (.agg [I (s.link x).ty, I (s.link x).fr, I (s.link x).to]) tok nt := by
 intro box nb
 cases hs : s.o
 ·have hl : s.link x = ⟨s.k, x, 0⟩ := by simp [Sd.link, hs]
  refine sB Tryz.func173 Tryz.ntmps173 ?_
  intro hbox htok
  simp only at hbox htok
  apply AL.start
  try (simp [hs])
  repeat (first | (refine sR ?_; simp [hs]) | (refine sC ?_; simp [hs]) | (refine sX ?_; simp only [AU, ↓reduceIte]))
  refine sT ?_
  try simp only [AU]
  refine ⟨by simp, sF hbox htok (fun _ h => h) (Nat.le_refl _) ?_⟩
  simp [packA, hl]
 ·have hl : s.link x = ⟨s.k, 0, x⟩ := by simp [Sd.link, hs]
  refine sB Tryz.func173 Tryz.ntmps173 ?_
  intro hbox htok
  simp only at hbox htok
  apply AL.start
  try (simp [hs])
  repeat (first | (refine sR ?_; simp [hs]) | (refine sC ?_; simp [hs]) | (refine sX ?_; simp only [AU, ↓reduceIte]))
  refine sT ?_
  try simp only [AU]
  refine ⟨by simp, sF hbox htok (fun _ h => h) (Nat.le_refl _) ?_⟩
  simp [packA, hl]
theorem givE_isB {t : Ty} {a b : Int} (h : givE t [a, b] = 0) : tyE t = 0 ∧ 0 ≤ a ∧ a < t.nodes.length ∧ 0 ≤ b ∧ b < t.nodes.length := by
 have h1 := givE_in h
 have h2 := h1.2 a (by simp)
 have h3 := h1.2 b (by simp)
 exact ⟨h1.1, h2.1, h2.2, h3.1, h3.2⟩
set_option maxRecDepth 100000 in
theorem isT_c (t : Ty) (ht : t.Fit) (a b : Int) (tok : Tks) (nt : Nat) : DCall Tryz.prog 102 [t.av, I a, I b] tok nt (B (tIs t a b)) tok nt := by
 intro box nb
 have hg := given_c t ht [a, b] (by simp)
 have hi := @givE_isB t a b
 obtain ⟨N, hN⟩ : ∃ N, tIs t a b = N := ⟨_, rfl⟩
 rw [hN]
 unfold tIs at hN
 generalize givE t [a, b] = E at *
 refine sB Tryz.func102 Tryz.ntmps102 ?_
 intro hbox htok
 simp only at hbox htok
 apply AL.start
 try (simp)
 repeat (refine sR ?_; simp)
 refine ⟨rfl, ?_⟩
 refine Stop.data ?_
 refine Stop.of_d (hg _ _) ?_
 by_cases e : E = 0
 ·obtain ⟨h1, h2, h3, _⟩ := hi e
  rw [if_pos e] at hN
  have hc := is_c t ht a b h2 h3 (tyE_par h1)
  simp [e]
  refine Stop.of_d (hc _ _) ?_
  simp
  try (simp)
  repeat (refine sR ?_; simp)
  refine sT ?_
  try simp only [AU]
  refine ⟨by simp, sF hbox htok (fun _ h => h) (Nat.le_refl _) ?_⟩
  simp [packA, hN]
 ·rw [if_neg e] at hN
  have b : (E == 0) = false := by simp [e]
  simp [b]
  try (simp)
  repeat (refine sR ?_; simp)
  refine sT ?_
  try simp only [AU]
  refine ⟨by simp, sF hbox htok (fun _ h => h) (Nat.le_refl _) ?_⟩
  simp [packA, hN]
def stEn (t : Ty) (s : Sd) (node : Int) (nb : Nat) (box : Bxs) (x : Acc) : AState :=
 ⟨tl [(20, I x.i), (19, I t.nodes.length), (7, .osl 1 (rI (endsN t s node x.i)) x.own), (4, .ptr (nb + 4) 0 0), (3, .ptr (nb + 3) 0 0)], lb nb box [(4, [[.d (nts t.nodes), .d (ets t.edges)]]), (3, [[I s.k, B s.o, I s.near, I s.far, I s.low, I s.high]])], x.tok, x.nt⟩
theorem endsP_c (t : Ty) (ht : t.Fit) (s : Sd) (node : Int) (tok : Tks) (nt : Nat) : DCall Tryz.prog 103 [s.av, t.av, I node] tok nt (.d (ints (endsR t s node))) tok nt := by
 intro box nb
 have htn := ht.n
 have h1 := isT_c t ht node s.far
 refine sB Tryz.func103 Tryz.ntmps103 ?_
 intro hbox htok
 simp only at hbox htok
 apply AL.start
 try (simp)
 repeat (refine sR ?_; simp)
 refine Stop.of_d (h1 _ _) ?_
 simp
 cases e : tIs t node s.far
 ·try (simp)
  repeat (first | (refine sR ?_; simp) | (refine sC ?_; simp) | (refine sX ?_; simp only [AU, ↓reduceIte]))
  refine sN ?_
  refine AL.loopT (stEn t s node nb box) (fun x => x.i ≤ t.nodes.length ∧ TK tok nt x.tok x.nt [x.own]) (fun x => t.nodes.length - x.i) ⟨0, .full, tok, nt⟩ ⟨Nat.zero_le _, (TK.start htok).full⟩ (Weaks.mk (Nat.le_refl _) rfl (by simp [ToL, lk, endsN, e]) (by simp [BoxL, lk])) ?_
  rintro ⟨i, own, tok', nt'⟩ S ⟨hi, htk⟩ hS
  simp only [stEn] at hS hi htk
  subst hS
  have hw := sW (i := i) (by omega)
  have hln := endsN_len t s node i
  have hs := endsN_succ t s node i
  by_cases hlt : i < t.nodes.length
  ·have hl := leafK_c t (by omega) i
   have hc := isT_c t ht i s.far
   unfold endB at hs
   try (simp [hlt])
   repeat (first | (refine sR ?_; simp [hlt]) | (refine sC ?_; simp [hlt]) | (refine sX ?_; simp only [AU, ↓reduceIte]))
   refine Stop.of_d (hl _ _) ?_
   simp
   cases e1 : leafB t i
   ·simp only [e1, Bool.false_eq_true, if_false, List.append_nil] at hs
    try (simp [hw])
    repeat (first | (refine sR ?_; simp [hw]) | (refine sC ?_; simp [hw]) | (refine sX ?_; simp only [AU, ↓reduceIte]))
    refine sE ?_
    exact ⟨⟨i + 1, _, _, _⟩, ⟨hlt, htk⟩, by simp only; omega, Weaks.mk htk.le rfl (by simp [ToL, lk, hs]) (by simp [BoxL, lk])⟩
   ·simp only [e1, if_true] at hs
    simp
    refine Stop.of_d (hc _ _) ?_
    simp
    cases e2 : tIs t i s.far
    ·simp only [e2, Bool.false_eq_true, if_false, List.append_nil] at hs
     try (simp [hw])
     repeat (first | (refine sR ?_; simp [hw]) | (refine sC ?_; simp [hw]) | (refine sX ?_; simp only [AU, ↓reduceIte]))
     refine sE ?_
     exact ⟨⟨i + 1, _, _, _⟩, ⟨hlt, htk⟩, by simp only; omega, Weaks.mk htk.le rfl (by simp [ToL, lk, hs]) (by simp [BoxL, lk])⟩
    ·simp only [e2, if_true] at hs
     try (simp)
     repeat (first | (refine sR ?_; simp) | (refine sC ?_; simp) | (refine sX ?_; simp only [AU, ↓reduceIte]))
     refine ⟨⟨by omega, htk.live⟩, ?_⟩
     try (simp [hw])
     repeat (first | (refine sR ?_; simp [hw]) | (refine sC ?_; simp [hw]) | (refine sX ?_; simp only [AU, ↓reduceIte]))
     refine sE ?_
     exact ⟨⟨i + 1, _, _, _⟩, ⟨hlt, htk.app⟩, by simp only; omega, Weaks.mk htk.app.le rfl (by simp [ToL, lk, hs]) (by simp [BoxL, lk])⟩
  ·have : i = t.nodes.length := by omega
   subst this
   try (simp)
   repeat (first | (refine sR ?_; simp) | (refine sC ?_; simp) | (refine sX ?_; simp only [AU, ↓reduceIte]))
   refine sN ?_
   refine AL.ret ?_
   try simp only [AU]
   exact ⟨by simp, Fin.data (av := .d (ints (endsR t s node))) (by simp [resAs, resA]; rfl) hbox rfl htok htk.old htk.le (by simp [packA, endsR])⟩
 ·try (simp)
  repeat (first | (refine sR ?_; simp) | (refine sC ?_; simp) | (refine sX ?_; simp only [AU, ↓reduceIte]))
  refine sN ?_
  refine AL.loopT (stEn t s node nb box) (fun x => x.i ≤ t.nodes.length ∧ TK tok nt x.tok x.nt [x.own]) (fun x => t.nodes.length - x.i) ⟨0, .tok nt, upd tok nt true, nt + 1⟩ ⟨Nat.zero_le _, (TK.start htok).full.app⟩ (Weaks.mk (by simp) rfl (by simp [ToL, lk, endsN, e]) (by simp [BoxL, lk])) ?_
  rintro ⟨i, own, tok', nt'⟩ S ⟨hi, htk⟩ hS
  simp only [stEn] at hS hi htk
  subst hS
  have hw := sW (i := i) (by omega)
  have hln := endsN_len t s node i
  have hs := endsN_succ t s node i
  by_cases hlt : i < t.nodes.length
  ·have hl := leafK_c t (by omega) i
   have hc := isT_c t ht i s.far
   unfold endB at hs
   try (simp [hlt])
   repeat (first | (refine sR ?_; simp [hlt]) | (refine sC ?_; simp [hlt]) | (refine sX ?_; simp only [AU, ↓reduceIte]))
   refine Stop.of_d (hl _ _) ?_
   simp
   cases e1 : leafB t i
   ·simp only [e1, Bool.false_eq_true, if_false, List.append_nil] at hs
    try (simp [hw])
    repeat (first | (refine sR ?_; simp [hw]) | (refine sC ?_; simp [hw]) | (refine sX ?_; simp only [AU, ↓reduceIte]))
    refine sE ?_
    exact ⟨⟨i + 1, _, _, _⟩, ⟨hlt, htk⟩, by simp only; omega, Weaks.mk htk.le rfl (by simp [ToL, lk, hs]) (by simp [BoxL, lk])⟩
   ·simp only [e1, if_true] at hs
    simp
    refine Stop.of_d (hc _ _) ?_
    simp
    cases e2 : tIs t i s.far
    ·simp only [e2, Bool.false_eq_true, if_false, List.append_nil] at hs
     try (simp [hw])
     repeat (first | (refine sR ?_; simp [hw]) | (refine sC ?_; simp [hw]) | (refine sX ?_; simp only [AU, ↓reduceIte]))
     refine sE ?_
     exact ⟨⟨i + 1, _, _, _⟩, ⟨hlt, htk⟩, by simp only; omega, Weaks.mk htk.le rfl (by simp [ToL, lk, hs]) (by simp [BoxL, lk])⟩
    ·simp only [e2, if_true] at hs
     try (simp)
     repeat (first | (refine sR ?_; simp) | (refine sC ?_; simp) | (refine sX ?_; simp only [AU, ↓reduceIte]))
     refine ⟨⟨by omega, htk.live⟩, ?_⟩
     try (simp [hw])
     repeat (first | (refine sR ?_; simp [hw]) | (refine sC ?_; simp [hw]) | (refine sX ?_; simp only [AU, ↓reduceIte]))
     refine sE ?_
     exact ⟨⟨i + 1, _, _, _⟩, ⟨hlt, htk.app⟩, by simp only; omega, Weaks.mk htk.app.le rfl (by simp [ToL, lk, hs]) (by simp [BoxL, lk])⟩
  ·have : i = t.nodes.length := by omega
   subst this
   try (simp)
   repeat (first | (refine sR ?_; simp) | (refine sC ?_; simp) | (refine sX ?_; simp only [AU, ↓reduceIte]))
   refine sN ?_
   refine AL.ret ?_
   try simp only [AU]
   exact ⟨by simp, Fin.data (av := .d (ints (endsR t s node))) (by simp [resAs, resA]; rfl) hbox rfl htok htk.old htk.le (by simp [packA, endsR])⟩
end Go.AM
namespace Go.AM
open Go Go.Proofs
end Go.AM
namespace Go.AM
open Go Go.Proofs
end Go.AM
namespace Go.AM
open Go Go.Proofs
end Go.AM
namespace Go.AM
open Go Go.Proofs
structure DelS where
 j : Nat
 i : Nat
 ys : List Ov
structure DelOk (xs : List Ov) (p : Ov → Bool) (x : DelS) : Prop where
 ij : x.i < x.j
 jn : x.j ≤ xs.length
 len : x.ys.length = xs.length
 tk : x.ys.take x.i = (xs.take x.j).filter fun o => !p o
 dr : x.ys.drop x.j = xs.drop x.j
theorem DelOk.at {xs : List Ov} {p : Ov → Bool} {x : DelS} (h : DelOk xs p x) (hj : x.j < xs.length) : x.ys[x.j]'(by rw [h.len]; exact hj) = xs[x.j] := by
 have h1 : x.ys[x.j]'(by rw [h.len]; exact hj) = (x.ys.drop x.j)[0]'(by simp [h.len]; omega) := by simp
 have h2 : xs[x.j] = (xs.drop x.j)[0]'(by simp; omega) := by simp
 rw [h1, h2]
 simp only [h.dr]
theorem DelOk.skip {xs : List Ov} {p : Ov → Bool} {j i : Nat} {ys : List Ov} (h : DelOk xs p ⟨j, i, ys⟩) (hj : j < xs.length) (hp : p xs[j] = true) : DelOk xs p ⟨j + 1, i, ys⟩ := by
 obtain ⟨h1, h2, h3, h4, h5⟩ := h
 simp only at h1 h2 h3 h4 h5
 refine ⟨by simp only; omega, hj, h3, ?_, ?_⟩
 ·simp only
  rw [h4, ← List.take_append_getElem hj, List.filter_append]
  simp [hp]
 ·simp only
  rw [← List.drop_drop, ← List.drop_drop, h5]
theorem DelOk.put {xs : List Ov} {p : Ov → Bool} {j i : Nat} {ys : List Ov} (h : DelOk xs p ⟨j, i, ys⟩) (hj : j < xs.length) (hp : p xs[j] = false) : DelOk xs p ⟨j + 1, i + 1, ys.set i xs[j]⟩ := by
 obtain ⟨h1, h2, h3, h4, h5⟩ := h
 simp only at h1 h2 h3 h4 h5
 refine ⟨by simp only; omega, hj, by simp [h3], ?_, ?_⟩
 ·simp only
  have hi : i < (ys.set i xs[j]).length := by simp; omega
  rw [← List.take_append_getElem hi, ← List.take_append_getElem hj, List.filter_append, ← h4]
  simp [hp, List.take_set_of_le]
 ·simp only
  rw [List.drop_set_of_lt (by omega), ← List.drop_drop, ← List.drop_drop, h5]
theorem DelOk.start {xs : List Ov} {p : Ov → Bool} (h : xs.any p = true) : DelOk xs p ⟨xs.findIdx p + 1, xs.findIdx p, xs⟩ := by
 have hlt : xs.findIdx p < xs.length := by
  rw [List.findIdx_lt_length]
  simpa using h
 refine ⟨Nat.lt_succ_self _, hlt, rfl, ?_, rfl⟩
 simp only
 rw [← List.take_append_getElem hlt, List.filter_append]
 have h1 : p xs[xs.findIdx p] = true := List.findIdx_getElem (w := hlt)
 have h2 : (xs.take (xs.findIdx p)).filter (fun o => !p o) = xs.take (xs.findIdx p) := by
  refine List.filter_eq_self.2 fun a ha => ?_
  obtain ⟨q, hq, rfl⟩ := List.getElem_of_mem ha
  rw [List.getElem_take]
  have := List.not_of_lt_findIdx (p := p) (xs := xs) (i := q) (by simp at hq; omega)
  simpa using this
 rw [h2]
 simp [h1]
end Go.AM
namespace Go.AM
open Go Go.Proofs
end Go.AM
namespace Go.AM
open Go Go.Proofs
end Go.AM
namespace Go.AM
open Go Go.Proofs
end Go.AM
namespace Go.AM
open Go Go.Proofs
structure Ar where
 to : Gr
 m : Mo
abbrev Ar.av (x : Ar) : AV := .agg [.d (ints x.to.nodes), .d (AM.edges x.to.edges), .d (ints x.m.nodes), .d (ints x.m.edges)]
structure Ar.Big (x : Ar) : Prop where
 n : x.m.nodes.length ≤ bigN
 e : x.m.edges.length ≤ bigN
end Go.AM
namespace Go.AM
open Go Go.Proofs
def RS (n : Int) (s t : St2) : Prop := (s.2 = 0 ∧ t.2 = 0 ∧ s.1 + t.1 = 2000 ∧ 0 ≤ s.1 ∧ s.1 ≤ n) ∨ (s.2 = 3 ∧ t.2 = 3)
theorem RS.zero {n : Int} {s t : St2} (h : RS n s t) (h0 : s.2 = 0) : t.2 = 0 := by
 rcases h with h | h
 ·exact h.2.1
 ·rw [h.1] at h0; cases h0
end Go.AM
namespace Go.AM
open Go Go.Proofs
end Go.AM
namespace Go.AM
open Go Go.Proofs
end Go.AM
namespace Go.AM
open Go Go.Proofs
structure Ch where
 a : Dr
 b : List Int
 g : List Int
 c : List Int
abbrev Ch.av (x : Ch) : AV := .agg [.d (.sl 1 (x.a.nodes.map fun n => [u8 n])), .d (.sl 3 (x.a.edges.map fun e => [u8 e.1, u8 e.2.1, u8 e.2.2])), .d (bytes x.b), .d (bytes x.g), .d (bytes x.c)]
def Ch.ok (x : Ch) : Bool := decide (x.a.nodes.length ≤ 1 ∧ x.a.edges.length ≤ 1 ∧ x.c.length ≤ 12 ∧ x.b.length ≤ 10 ∧ x.g.length ≤ 10)
def Ch.A (x : Ch) : Gr := madeG x.a
def Ch.B (x : Ch) : Gr := growR x.A x.b 2
end Go.AM
namespace Go.AM
open Go Go.Proofs
theorem Pre.le {a b : Gr} (h : Pre a b) : a.nodes.length ≤ b.nodes.length ∧ a.edges.length ≤ b.edges.length := by
 obtain ⟨t, ht⟩ := h.n
 obtain ⟨u, hu⟩ := h.e
 rw [ht, hu]; simp
end Go.AM
namespace Go.AM
open Go Go.Proofs
end Go.AM
namespace Go.AM
open Go Go.Proofs
end Go.AM
namespace Go.AM
open Go Go.Proofs
end Go.AM
namespace Go.AM
open Go Go.Proofs
inductive Cd.Pl : Cd → Prop
 | mk {c : Cd} (hs : c.sl = []) (hv : c.vars = 0) (ht : c.te = []) (h : ∀ x ∈ c.kids, Cd.Pl x) : Cd.Pl c
theorem Cd.Pl.sl {c : Cd} (h : c.Pl) : c.sl = [] := by cases h; assumption
theorem Cd.Pl.te {c : Cd} (h : c.Pl) : c.te = [] := by cases h; assumption
theorem Cd.Pl.vars {c : Cd} (h : c.Pl) : c.vars = 0 := by cases h; assumption
end Go.AM
namespace Go.AM
open Go Go.Proofs
end Go.AM
namespace Go.AM
open Go Go.Proofs
end Go.AM
namespace Go.AM
open Go Go.Proofs
structure Ac3 where
 own : Own
 tok : Nat → Bool
 nt : Nat
def Ac3.add (x : Ac3) (b : Bool) : Ac3 := if b = true then ⟨.tok (x.nt + 2), upd (x.own.kill (upd (upd (upd x.tok x.nt true) x.nt false) (x.nt + 1) true)) (x.nt + 2) true, x.nt + 3⟩ else x
structure Ac3.Ok (x : Ac3) (tok : Tks) (nt : Nat) : Prop where
 adv : Adv tok nt .full x.tok x.nt x.own
 lt : ∀ t, tok t = true → t < nt
theorem Ac3.Ok.add {x : Ac3} {tok : Nat → Bool} {nt : Nat} (h : x.Ok tok nt) (b : Bool) : (x.add b).Ok tok nt := by
 unfold Ac3.add
 split
 ·have had := Adv.fresh h.adv.live h.adv.lt
  exact ⟨h.adv.trans h.lt (had.trans h.adv.lt (Adv.app had.live had.lt)), h.lt⟩
 ·exact h
theorem Ac3.Ok.tk {x : Ac3} {tok : Nat → Bool} {nt : Nat} (h : x.Ok tok nt) : TK tok nt x.tok x.nt [x.own] :=
 ⟨fun t ht => h.adv.keep t ht (by simp), h.lt, h.adv.le, fun o ho t e => by
  rw [List.mem_singleton] at ho
  subst ho
  have hl := h.adv.live
  rw [e] at hl
  refine ⟨hl, ?_, h.adv.lt t hl⟩
  rcases h.adv.new with e2 | ⟨s, e2, hs⟩
  ·rw [e] at e2; cases e2
  ·rw [e] at e2; cases e2; exact hs, List.pairwise_singleton _ _⟩
abbrev Gr.cells (g : Gr) : List D := [ints g.nodes, AM.edges g.edges]
end Go.AM
namespace Go.AM
open Go Go.Proofs
theorem Ac3.Ok.start {tok : Nat → Bool} {nt : Nat} (h : ∀ t, tok t = true → t < nt) : (Ac3.mk .full tok nt).Ok tok nt := ⟨Adv.refl trivial h, h⟩
end Go.AM
namespace Go.AM
open Go Go.Proofs
theorem TK.adv {mtok : Nat → Bool} {nt0 : Nat} {tok tok' : Nat → Bool} {nt nt' : Nat} {os : List Own} {own' : Own} (h : TK mtok nt0 tok nt os) (ha : Adv tok nt .full tok' nt' own') : TK mtok nt0 tok' nt' (own' :: os) := by
 have hnew : ∀ s, own' = .tok s → nt ≤ s ∧ tok' s = true := fun s e => by
  have hl := ha.live
  rw [e] at hl
  rcases ha.new with e2 | ⟨s2, e2, hs⟩
  ·rw [e] at e2; cases e2
  ·rw [e] at e2; cases e2; exact ⟨hs, hl⟩
 refine ⟨fun t ht => ha.keep t (h.old t ht) (by simp), h.lt, Nat.le_trans h.le ha.le, fun o ho t e => ?_, ?_⟩
 ·rcases List.mem_cons.1 ho with rfl | ho
  ·obtain ⟨h1, h2⟩ := hnew t e
   exact ⟨h2, Nat.le_trans h.le h1, ha.lt t h2⟩
  ·obtain ⟨h1, h2, h3⟩ := h.own o ho t e
   exact ⟨ha.keep t h1 (by simp), h2, Nat.lt_of_lt_of_le h3 ha.le⟩
 ·refine List.pairwise_cons.2 ⟨fun b hb t e e2 => ?_, h.ne⟩
  obtain ⟨h1, h2⟩ := hnew t e
  obtain ⟨_, _, h3⟩ := h.own b hb t e2
  omega
end Go.AM
namespace Go.AM
open Go Go.Proofs
def Ac3.ed (x : Ac3) (s : Nat) : Ac3 := ⟨.tok (x.nt + 1), upd (x.own.kill (upd (upd x.tok s false) x.nt true)) (x.nt + 1) true, x.nt + 2⟩
def Ac3.nd (x : Ac3) (s : Nat) : Ac3 := ⟨x.own, upd (upd x.tok s false) x.nt true, x.nt + 1⟩
end Go.AM
namespace Go.AM
open Go Go.Proofs
end Go.AM
namespace Go.AM
open Go Go.Proofs
end Go.AM
namespace Go.AM
open Go Go.Proofs
end Go.AM
namespace Go.AM
open Go Go.Proofs
def exT : Ty := ⟨[⟨⟨#[65, 99, 99, 111, 117, 110, 116]⟩, -1, true, [⟨⟨#[98, 97, 108, 97, 110, 99, 101]⟩, -1000, 1000, []⟩]⟩, ⟨⟨#[67, 97, 115, 104]⟩, 0, false, []⟩, ⟨⟨#[76, 111, 97, 110]⟩, 0, false, [⟨⟨#[115, 116, 97, 116, 101]⟩, 0, 1, [⟨#[111, 112, 101, 110]⟩, ⟨#[99, 108, 111, 115, 101, 100]⟩]⟩]⟩, ⟨⟨#[80, 101, 114, 115, 111, 110]⟩, -1, false, []⟩],
 [⟨⟨#[111, 119, 110, 115]⟩, 3, 0, 0, -1, 1, 1⟩, ⟨⟨#[112, 97, 121, 115]⟩, 1, 1, 0, -1, 0, -1⟩]⟩
theorem exT_fit : exT.Fit := ⟨by decide, by decide, by decide, by decide, by simp [exT]; exact ⟨⟨by decide, by decide, by decide⟩, ⟨by decide, by decide, by decide⟩⟩⟩
theorem dss_nil : DSs [] [] := ⟨rfl, fun i h => by simp at h⟩
theorem dss_cons {x y : List D} {xs ys : List (List D)} : DSs (x :: xs) (y :: ys) ↔ DS1 x y ∧ DSs xs ys := by
 constructor
 ·rintro ⟨h1, h2⟩
  exact ⟨h2 0 (by simp) (by simp), by simpa using h1, fun j g1 g2 => h2 (j + 1) (by simpa using g1) (by simpa using g2)⟩
 ·rintro ⟨h1, h2, h3⟩
  refine ⟨by simp [h2], fun j g1 g2 => ?_⟩
  match j with
  | 0 => exact h1
  | j + 1 => exact h3 j (by simpa using g1) (by simpa using g2)
theorem dsub_all {sz : Nat} {es es' : List (List D)} (h : DSs es es') : DSub (.sl sz es) (.sl sz es') := h.sub sz
theorem to_dss {p q : Nat → Prop} {fz : Option (Nat × Nat × List (List D))} {sz : Nat} {es es' : List (List D)} {o : Own} (h : DSs es es') : To p q fz (.osl sz es o) (.d (.sl sz es')) := .odsub (h.sub sz)
set_option maxRecDepth 100000 in
theorem example04_c (tok : Tks) (nt : Nat) : DCall Tryz.prog 57 [] tok nt exT.av tok nt := by
 intro box nb
 refine sB Tryz.func57 Tryz.ntmps57 ?_
 intro hbox htok
 simp only at hbox htok
 apply AL.start
 try (simp)
 repeat (refine sR ?_; simp)
 try refine ⟨rfl, ?_⟩
 try (simp)
 repeat (refine sR ?_; simp)
 try refine ⟨rfl, ?_⟩
 try (simp)
 repeat (refine sR ?_; simp)
 try refine ⟨rfl, ?_⟩
 try (simp)
 repeat (refine sR ?_; simp)
 try refine ⟨rfl, ?_⟩
 try (simp)
 repeat (refine sR ?_; simp)
 refine sT ?_
 try simp only [AU]
 refine ⟨by simp, sF hbox htok (fun _ h => h) (Nat.le_refl _) ?_⟩
 simp [packA, exT, nts, ets, atts, strs]
 exact to_dss (by simp [dss_cons, dss_nil, dsub_all, atts, strs])
end Go.AM
namespace Go.AM
open Go Go.Proofs
def lstX (s : Sd) (node n : Int) : Xt := if n = -1 then ⟨⟨[0], []⟩, ⟨[node], [s.link 0]⟩⟩ else ⟨⟨[0], []⟩, ⟨[node, n], [s.link 1]⟩⟩
def lstC (s : Sd) (node : Int) (ends : List Int) : Co := ⟨⟨#[]⟩, if ends = [] then 1 else 2, ⟨[node], []⟩, ends.map (lstX s node)⟩
def lsR (s : Sd) (node : Int) (l : List Int) : List (List D) := l.map fun n => (lstX s node n).cells
theorem lsR_len (s : Sd) (node : Int) (l : List Int) : (lsR s node l).length = l.length := by simp [lsR]
def stLs (s : Sd) (node : Int) (ends : List Int) (nb : Nat) (box : Bxs) (x : Acc) : AState :=
 ⟨tl [(24, I x.i), (23, I ends.length), (22, .d (ints ends)), (1, I node), (3, .ptr (nb + 3) 0 0), (6, .ptr (nb + 6) 0 0), (8, .ptr (nb + 8) 0 0)],
  lb nb box [(3, [[I s.k, B s.o, I s.near, I s.far, I s.low, I s.high]]), (6, [[.bot, .bot, .bot, .bot, .bot]]), (8, [[Sb ⟨#[]⟩, I 2, .d (ints [node]), .d (AM.edges []), .osl 4 (lsR s node (ends.take x.i)) x.own]])], x.tok, x.nt⟩
theorem leastP_c (s : Sd) (node : Int) (ends : List Int) (hn : ends.length ≤ 100000) (tok : Tks) (nt : Nat) : DCall Tryz.prog 104 [s.av, I node, .d (ints ends)] tok nt (lstC s node ends).av tok nt := by
 intro box nb
 have hl0 := linkP_c s 0
 have hl1 := linkP_c s 1
 refine sB Tryz.func104 Tryz.ntmps104 ?_
 intro hbox htok
 simp only at hbox htok
 apply AL.start
 try (simp)
 repeat (refine sR ?_; simp)
 by_cases he : ends = []
 ·subst he
  try (simp)
  repeat (first | (refine sR ?_; simp) | (refine sC ?_; simp) | (refine sX ?_; simp only [AU, ↓reduceIte]))
  refine sT ?_
  try simp only [AU]
  refine ⟨by simp, sF hbox htok (fun _ h => h) (Nat.le_refl _) ?_⟩
  simp [packA, lstC, ints, AM.edges, xts]
 ·have hlen : ends.length ≠ 0 := fun h => he (List.length_eq_zero_iff.1 h)
  have b : ((ends.length : Int) == 0) = false := by simp [he]
  try (simp [b])
  repeat (first | (refine sR ?_; simp [b]) | (refine sC ?_; simp [b]) | (refine sX ?_; simp only [AU, ↓reduceIte]))
  refine sN ?_
  refine AL.loopT (stLs s node ends nb box) (fun x => x.i ≤ ends.length ∧ TK tok nt x.tok x.nt [x.own]) (fun x => ends.length - x.i) ⟨0, .full, tok, nt⟩ ⟨Nat.zero_le _, (TK.start htok).full⟩ (Weaks.mk (Nat.le_refl _) rfl (by simp [ToL, lk]) (by simp [BoxL, lk, ints, AM.edges, lsR])) ?_
  rintro ⟨i, own, tok', nt'⟩ S ⟨hi, htk⟩ hS
  simp only [stLs] at hS hi htk
  subst hS
  have hw := sW (i := i) (by omega)
  by_cases hlt : i < ends.length
  ·have hs : lsR s node (ends.take (i + 1)) = lsR s node (ends.take i) ++ [(lstX s node ends[i]).cells] := by unfold lsR; rw [List.take_succ_eq_append_getElem hlt, List.map_append]; rfl
   have hln := lsR_len s node (ends.take i)
   rw [List.length_take] at hln
   try (simp [hlt])
   repeat (first | (refine sR ?_; simp [hlt]) | (refine sC ?_; simp [hlt]) | (refine sX ?_; simp only [AU, ↓reduceIte]))
   refine Stop.of_d (hl0 _ _) ?_
   simp
   try (simp)
   repeat (refine sR ?_; simp)
   by_cases h1 : ends[i] = -1
   ·have b1 : (ends[i] != -1) = false := by simp [h1]
    rw [lstX, if_pos h1] at hs
    try (simp [b1])
    repeat (first | (refine sR ?_; simp [b1]) | (refine sC ?_; simp [b1]) | (refine sX ?_; simp only [AU, ↓reduceIte]))
    refine ⟨⟨by omega, htk.live⟩, ?_⟩
    try (simp [hw])
    repeat (first | (refine sR ?_; simp [hw]) | (refine sC ?_; simp [hw]) | (refine sX ?_; simp only [AU, ↓reduceIte]))
    refine sE ?_
    refine ⟨⟨i + 1, _, _, _⟩, ⟨hlt, htk.app⟩, by simp only; omega, Weaks.mk htk.app.le rfl (by simp [ToL, lk]) ?_⟩
    simp [BoxL, lk, ints, AM.edges, hs]
    refine to_snoc ?_ _
    simp [dsub_one, ints, AM.edges]
   ·have b1 : (ends[i] != -1) = true := by simp [h1]
    rw [lstX, if_neg h1] at hs
    try (simp [b1])
    repeat (first | (refine sR ?_; simp [b1]) | (refine sC ?_; simp [b1]) | (refine sX ?_; simp only [AU, ↓reduceIte]))
    refine ⟨rfl, ?_⟩
    refine Stop.of_d (hl1 _ _) ?_
    simp
    try (simp)
    repeat (first | (refine sR ?_; simp) | (refine sC ?_; simp) | (refine sX ?_; simp only [AU, ↓reduceIte]))
    refine ⟨⟨by omega, htk.live⟩, ?_⟩
    try (simp [hw])
    repeat (first | (refine sR ?_; simp [hw]) | (refine sC ?_; simp [hw]) | (refine sX ?_; simp only [AU, ↓reduceIte]))
    refine sE ?_
    refine ⟨⟨i + 1, _, _, _⟩, ⟨hlt, htk.app⟩, by simp only; omega, Weaks.mk htk.app.le rfl (by simp [ToL, lk]) ?_⟩
    simp [BoxL, lk, ints, AM.edges, hs]
    refine to_snoc ?_ _
    simp [dsub_one, ints, AM.edges]
  ·have : i = ends.length := by omega
   subst this
   rw [List.take_length]
   try (simp)
   repeat (first | (refine sR ?_; simp) | (refine sC ?_; simp) | (refine sX ?_; simp only [AU, ↓reduceIte]))
   refine sN ?_
   refine AL.ret ?_
   try simp only [AU]
   exact ⟨by simp, Fin.data (av := (lstC s node ends).av) (by simp [resAs, resA]; rfl) hbox rfl htok htk.old htk.le (by simp [packA, lstC, he, ints, AM.edges, xts, lsR]; exact .data)⟩
def chB (l : List Int) (n : Int) : Bool := if n = -1 then !decide ((-1 : Int) ∈ l) else true
def chL (ends l : List Int) : List (List Int) := (ends.filter (chB l)).map fun n => l ++ [n]
def choR (ends : List Int) : Nat → List (List Int)
 | 0 => [[]]
 | k + 1 => (choR ends k).flatMap (chL ends)
theorem chL_len (ends l : List Int) : (chL ends l).length ≤ ends.length := by
 unfold chL
 rw [List.length_map]
 exact List.length_filter_le _ _
theorem choR_len (ends : List Int) : ∀ n, (choR ends n).length ≤ ends.length ^ n
 | 0 => by simp [choR]
 | n + 1 => by
  unfold choR
  rw [List.length_flatMap, Nat.pow_succ]
  have h : ∀ L : List (List Int), (L.map fun a => (chL ends a).length).sum ≤ L.length * ends.length := by
   intro L
   induction L with
   | nil => simp
   | cons x L ih =>
    simp only [List.map_cons, List.sum_cons, List.length_cons, Nat.succ_mul]
    have := chL_len ends x
    omega
  exact Nat.le_trans (h _) (Nat.mul_le_mul_right _ (choR_len ends n))
theorem choR_len3 {ends : List Int} {n : Nat} (he : ends.length ≤ 100) (h3 : n ≤ 3) : (choR ends n).length ≤ 1000000 :=
 Nat.le_trans (choR_len ends n) (Nat.le_trans (Nat.pow_le_pow_left he n) (Nat.le_trans (Nat.pow_le_pow_right (by decide) h3) (by decide)))
theorem choR_mem {ends : List Int} : ∀ {n : Nat} {l : List Int}, l ∈ choR ends n → l.length = n
 | 0, l, h => by simp [choR] at h; simp [h]
 | n + 1, l, h => by
  unfold choR chL at h
  simp only [List.mem_flatMap, List.mem_map] at h
  obtain ⟨a, ha, x, _, rfl⟩ := h
  simp [choR_mem ha]
def chK (ends : List Int) (L : List (List Int)) (i j : Nat) : List (List Int) := (L.take i).flatMap (chL ends) ++ chL (ends.take j) (L.getD i [])
theorem chL_zero (l : List Int) : chL [] l = [] := rfl
theorem chK_succ {ends : List Int} {L : List (List Int)} {i j : Nat} (hi : i < L.length) (hj : j < ends.length) : chK ends L i (j + 1) = chK ends L i j ++ (if chB L[i] ends[j] = true then [L[i] ++ [ends[j]]] else []) := by
 have hg : L.getD i [] = L[i] := by simp [hi]
 unfold chK
 rw [hg, List.append_assoc]
 congr 1
 unfold chL
 rw [List.take_succ_eq_append_getElem hj, List.filter_append, List.map_append]
 congr 1
 by_cases h : chB L[i] ends[j] = true <;> simp [h]
theorem chK_next {ends : List Int} {L : List (List Int)} {i : Nat} (hi : i < L.length) : chK ends L i ends.length = chK ends L (i + 1) 0 := by
 have hg : L.getD i [] = L[i] := by simp [hi]
 unfold chK
 rw [hg, List.take_length, List.take_zero, chL_zero, List.append_nil, List.take_succ_eq_append_getElem hi, List.flatMap_append]
 simp
theorem chK_end (ends : List Int) (L : List (List Int)) : chK ends L L.length 0 = L.flatMap (chL ends) := by
 unfold chK
 rw [List.take_length, List.take_zero, chL_zero, List.append_nil]
theorem flat_chL (ends : List Int) : ∀ L : List (List Int), (L.flatMap (chL ends)).length ≤ L.length * ends.length
 | [] => by simp
 | l :: L => by
  rw [List.flatMap_cons, List.length_append, List.length_cons, Nat.succ_mul]
  have h1 := chL_len ends l
  have h2 := flat_chL ends L
  omega
theorem chK_len {ends : List Int} {m : Nat} (he : ends.length ≤ 100) (hm : m ≤ 2) {i j : Nat} (hi : i < (choR ends m).length) : (chK ends (choR ends m) i j).length ≤ 1000000 := by
 have h1 : (choR ends m).length ≤ 10000 := Nat.le_trans (choR_len ends m) (Nat.le_trans (Nat.pow_le_pow_left he m) (Nat.le_trans (Nat.pow_le_pow_right (by decide) hm) (by decide)))
 have h2 := flat_chL ends ((choR ends m).take i)
 have h3 := chL_len (ends.take j) ((choR ends m).getD i [])
 rw [List.length_take] at h2 h3
 have h4 : min i (choR ends m).length * ends.length ≤ 9999 * 100 := Nat.mul_le_mul (by omega) he
 unfold chK
 rw [List.length_append]
 omega
def muC1 (ends : List Int) (n : Nat) (nb : Nat) (box : Bxs) (x : Acc) : AState :=
 ⟨tl [(13, I x.i), (12, I n), (5, .osl 1 (rL (choR ends x.i)) x.own), (0, .d (ints ends)), (1, I n)], lb nb box [], x.tok, x.nt⟩
def muC2 (ends : List Int) (n : Nat) (nb : Nat) (box : Bxs) (m : Nat) (x : Acc) : AState :=
 ⟨tl [(17, I x.i), (16, I (choR ends m).length), (15, .d (lists (choR ends m))), (6, .osl 1 (rL (chK ends (choR ends m) x.i 0)) x.own), (13, I m), (12, I n), (0, .d (ints ends)), (1, I n)], lb nb box [], x.tok, x.nt⟩
def muC3 (ends : List Int) (n : Nat) (nb : Nat) (box : Bxs) (m i : Nat) (x : Acc) : AState :=
 ⟨tl [(23, I x.i), (22, I ends.length), (21, .d (ints ends)), (8, .d (ints ((choR ends m).getD i []))), (17, I i), (16, I (choR ends m).length), (15, .d (lists (choR ends m))), (6, .osl 1 (rL (chK ends (choR ends m) i x.i)) x.own), (13, I m), (12, I n), (0, .d (ints ends)), (1, I n)], lb nb box [], x.tok, x.nt⟩
theorem choicesP_c (ends : List Int) (n : Nat) (hn : ends.length ≤ 100) (h3 : n ≤ 3) (tok : Tks) (nt : Nat) : DCall Tryz.prog 176 [.d (ints ends), I n] tok nt (.d (lists (choR ends n))) tok nt := by
 intro box nb
 refine sB Tryz.func176 Tryz.ntmps176 ?_
 intro hbox htok
 simp only at hbox htok
 apply AL.start
 try (simp)
 repeat (refine sR ?_; simp)
 refine sN ?_
 refine AL.loopT (muC1 ends n nb box) (fun x => x.i ≤ n ∧ TK tok nt x.tok x.nt [x.own]) (fun x => n - x.i) ⟨0, .full, tok, nt⟩ ⟨Nat.zero_le _, (TK.start htok).full⟩ (Weaks.mk (Nat.le_refl _) rfl (by simp [ToL, lk]; exact to_emp2 0 1) (by simp [BoxL, lk])) ?_
 rintro ⟨m, own, tok', nt'⟩ S ⟨hi, htk⟩ hS
 simp only [muC1] at hS hi htk
 subst hS
 have hw := sW (i := m) (by omega)
 by_cases hlt : m < n
 ·have hL := choR_len3 hn (show m ≤ 3 by omega)
  have hlm := @choR_mem ends m
  have hkl := fun i j hi => @chK_len ends m hn (by omega) i j hi
  have hend := chK_end ends (choR ends m)
  have hnx : choR ends (m + 1) = (choR ends m).flatMap (chL ends) := rfl
  try (simp [hlt])
  repeat (first | (refine sR ?_; simp [hlt]) | (refine sC ?_; simp [hlt]) | (refine sX ?_; simp only [AU, ↓reduceIte]))
  refine sN ?_
  refine AL.loopT (muC2 ends n nb box m) (fun x => x.i ≤ (choR ends m).length ∧ TK tok nt x.tok x.nt [x.own]) (fun x => (choR ends m).length - x.i) ⟨0, .full, tok', nt'⟩ ⟨Nat.zero_le _, htk.tail.full⟩ (Weaks.mk htk.le rfl (by simp [ToL, lk, chK, chL_zero]) (by simp [BoxL, lk])) ?_
  rintro ⟨i, own2, tok2, nt2⟩ S ⟨hi2, htk2⟩ hS
  simp only [muC2] at hS hi2 htk2
  subst hS
  have hw2 := sW (i := i) (by omega)
  by_cases hli : i < (choR ends m).length
  ·have hg : (choR ends m).getD i [] = (choR ends m)[i] := by simp [hli]
   have hlen := hlm (List.getElem_mem hli)
   have hnext := chK_next (ends := ends) hli
   have hsc := fun j hj => chK_succ (ends := ends) (j := j) hli hj
   have hkl := fun j => hkl i j hli
   have hc1 := contains_c (choR ends m)[i] (-1) (by omega)
   have hc2 := clone_c (choR ends m)[i] (by omega)
   try (simp [hli])
   repeat (first | (refine sR ?_; simp [hli]) | (refine sC ?_; simp [hli]) | (refine sX ?_; simp only [AU, ↓reduceIte]))
   refine sN ?_
   refine AL.loopT (muC3 ends n nb box m i) (fun x => x.i ≤ ends.length ∧ TK tok nt x.tok x.nt [x.own]) (fun x => ends.length - x.i) ⟨0, own2, tok2, nt2⟩ ⟨Nat.zero_le _, htk2⟩ (Weaks.mk htk2.le rfl (by simp [ToL, lk, hli]) (by simp [BoxL, lk])) ?_
   rintro ⟨j, own3, tok3, nt3⟩ S ⟨hi3, htk3⟩ hS
   simp only [muC3] at hS hi3 htk3
   subst hS
   rw [hg]
   have hw3 := sW (i := j) (by omega)
   by_cases hlj : j < ends.length
   ·have hs := hsc j hlj
    have hk := hkl j
    unfold chB at hs
    by_cases h1 : ends[j] = -1
    ·have b1 : (ends[j] != -1) = false := by simp [h1]
     rw [if_pos h1] at hs
     try (simp [hlj, b1])
     repeat (first | (refine sR ?_; simp [hlj, b1]) | (refine sC ?_; simp [hlj, b1]) | (refine sX ?_; simp only [AU, ↓reduceIte]))
     refine Stop.of_d (hc1 _ _) ?_
     simp
     cases e : decide ((-1 : Int) ∈ (choR ends m)[i])
     ·rw [e, if_pos (by rfl)] at hs
      try (simp)
      repeat (first | (refine sR ?_; simp) | (refine sC ?_; simp) | (refine sX ?_; simp only [AU, ↓reduceIte]))
      refine Stop.of_d (hc2 _ _) ?_
      simp
      have a1 := htk3.more 0
      have hs2 : rL (chK ends (choR ends m) i (j + 1)) = rL (chK ends (choR ends m) i j) ++ [[D.sl 1 (rI (choR ends m)[i] ++ [[D.raw (.int .i64 ends[j])]])]] := by rw [hs]; simp [ints]
      have a2 := a1.app
      have a3 := a2.swap.app
      refine ⟨⟨by omega, by simp [upd_same]⟩, ⟨by omega, a2.swap.live⟩, ?_⟩
      try (simp [hw3])
      repeat (first | (refine sR ?_; simp [hw3]) | (refine sC ?_; simp [hw3]) | (refine sX ?_; simp only [AU, ↓reduceIte]))
      refine sE ?_
      exact ⟨⟨j + 1, _, _, _⟩, ⟨hlj, a3.swap.tail⟩, by simp only; omega, Weaks.mk a3.le rfl (by simp only [muC3, hs2, hg]; simp [ToL, lk]) (by simp [BoxL, lk])⟩
     ·rw [e, if_neg (by simp), List.append_nil] at hs
      try (simp [hw3])
      repeat (first | (refine sR ?_; simp [hw3]) | (refine sC ?_; simp [hw3]) | (refine sX ?_; simp only [AU, ↓reduceIte]))
      refine sE ?_
      exact ⟨⟨j + 1, _, _, _⟩, ⟨hlj, htk3⟩, by simp only; omega, Weaks.mk htk3.le rfl (by simp [ToL, lk, hs, hg, hli]) (by simp [BoxL, lk])⟩
    ·have b1 : (ends[j] != -1) = true := by simp [h1]
     rw [if_neg h1, if_pos rfl] at hs
     try (simp [hlj, b1])
     repeat (first | (refine sR ?_; simp [hlj, b1]) | (refine sC ?_; simp [hlj, b1]) | (refine sX ?_; simp only [AU, ↓reduceIte]))
     refine Stop.of_d (hc2 _ _) ?_
     simp
     have a1 := htk3.more 0
     have hs2 : rL (chK ends (choR ends m) i (j + 1)) = rL (chK ends (choR ends m) i j) ++ [[D.sl 1 (rI (choR ends m)[i] ++ [[D.raw (.int .i64 ends[j])]])]] := by rw [hs]; simp [ints]
     have a2 := a1.app
     have a3 := a2.swap.app
     refine ⟨⟨by omega, by simp [upd_same]⟩, ⟨by omega, a2.swap.live⟩, ?_⟩
     try (simp [hw3])
     repeat (first | (refine sR ?_; simp [hw3]) | (refine sC ?_; simp [hw3]) | (refine sX ?_; simp only [AU, ↓reduceIte]))
     refine sE ?_
     exact ⟨⟨j + 1, _, _, _⟩, ⟨hlj, a3.swap.tail⟩, by simp only; omega, Weaks.mk a3.le rfl (by simp only [muC3, hs2, hg]; simp [ToL, lk]) (by simp [BoxL, lk])⟩
   ·have : j = ends.length := by omega
    subst this
    rw [hnext]
    try (simp [hw2])
    repeat (first | (refine sR ?_; simp [hw2]) | (refine sC ?_; simp [hw2]) | (refine sX ?_; simp only [AU, ↓reduceIte]))
    refine sE ?_
    exact ⟨⟨i + 1, _, _, _⟩, ⟨hli, htk3⟩, by simp only; omega, Weaks.mk htk3.le rfl (by simp [ToL, lk]) (by simp [BoxL, lk])⟩
  ·have : i = (choR ends m).length := by omega
   subst this
   rw [hend, ← hnx]
   try (simp [hw])
   repeat (first | (refine sR ?_; simp [hw]) | (refine sC ?_; simp [hw]) | (refine sX ?_; simp only [AU, ↓reduceIte]))
   refine sE ?_
   exact ⟨⟨m + 1, _, _, _⟩, ⟨hlt, htk2⟩, by simp only; omega, Weaks.mk htk2.le rfl (by simp [ToL, lk]) (by simp [BoxL, lk])⟩
 ·have : m = n := by omega
  subst this
  try (simp)
  repeat (first | (refine sR ?_; simp) | (refine sC ?_; simp) | (refine sX ?_; simp only [AU, ↓reduceIte]))
  refine sN ?_
  refine AL.ret ?_
  try simp only [AU]
  exact ⟨by simp, Fin.data (av := .d (lists (choR ends m))) (by simp [resAs, resA]; rfl) hbox rfl htok htk.old htk.le (by simp [packA])⟩
end Go.AM
namespace Go.AM
open Go Go.Proofs
abbrev Co.cells (c : Co) : List D := [.raw (.string c.name), .raw (.int .i64 c.kind), ints c.g.nodes, AM.edges c.g.edges, xts c.exts]
abbrev rCo (l : List Co) : List (List D) := l.map Co.cells
def cntO (c : List Int) : Nat := (c.filter (· != -1)).length
def gAtL (c : List Int) : List Int := (List.range c.length).map fun i => if c.getD i 0 = -1 then 0 else (1 : Int) + cntO (c.take i)
def greG (s : Sd) (node : Int) (cls c : List Int) : Gr := ⟨node :: c.filter (· != -1), cls.map fun k => s.link ((gAtL c).getD k.toNat 0)⟩
def greC (s : Sd) (node : Int) (cls c : List Int) : Co := ⟨⟨#[]⟩, 1, greG s node cls c, []⟩
def greP (s : Sd) (node : Int) (ends p : List Int) : List Co := (choR ends (numN p p.length).2.toNat).map (greC s node (numN p p.length).1)
def greL (s : Sd) (node : Int) (ends : List Int) : List Co := (partsN (s.high.toNat + 1)).flatMap (greP s node ends)
def grK (s : Sd) (node : Int) (ends : List Int) (P : List (List Int)) (i : Nat) (cls : List Int) (L : List (List Int)) (k : Nat) : List Co := (P.take i).flatMap (greP s node ends) ++ (L.take k).map (greC s node cls)
theorem grK_zero (s : Sd) (node : Int) (ends : List Int) (P : List (List Int)) (i : Nat) (cls : List Int) (L : List (List Int)) : grK s node ends P i cls L 0 = grK s node ends P i [] [] 0 := by simp [grK]
theorem grK_succ {s : Sd} {node : Int} {ends : List Int} {P : List (List Int)} {i : Nat} {cls : List Int} {L : List (List Int)} {k : Nat} (h : k < L.length) : grK s node ends P i cls L (k + 1) = grK s node ends P i cls L k ++ [greC s node cls L[k]] := by
 unfold grK
 rw [List.take_succ_eq_append_getElem h, List.map_append, List.append_assoc]
 rfl
theorem grK_next {s : Sd} {node : Int} {ends : List Int} {P : List (List Int)} {i : Nat} (h : i < P.length) : grK s node ends P i (numN P[i] P[i].length).1 (choR ends (numN P[i] P[i].length).2.toNat) (choR ends (numN P[i] P[i].length).2.toNat).length = grK s node ends P (i + 1) [] [] 0 := by
 unfold grK
 rw [List.take_length, List.take_succ_eq_append_getElem h, List.flatMap_append]
 simp [greP]
def stG1 (s : Sd) (node : Int) (ends : List Int) (P : List (List Int)) (nb : Nat) (box : Bxs) (x : Acc) : AState :=
 ⟨tl [(36, I x.i), (35, I P.length), (34, .d (lists P)), (10, .osl 5 (rCo (grK s node ends P x.i [] [] 0)) x.own), (1, I node), (2, .d (ints ends)), (3, .ptr (nb + 3) 0 0)], lb nb box [(3, [[I s.k, B s.o, I s.near, I s.far, I s.low, I s.high]])], x.tok, x.nt⟩
def stG2 (s : Sd) (node : Int) (ends : List Int) (P : List (List Int)) (i : Nat) (cls : List Int) (n : Nat) (nb : Nat) (box : Bxs) (x : Acc) : AState :=
 ⟨tl [(53, I x.i), (52, I (choR ends n).length), (51, .d (lists (choR ends n))), (13, .d (ints cls)), (14, I n), (36, I i), (35, I P.length), (34, .d (lists P)), (10, .osl 5 (rCo (grK s node ends P i cls (choR ends n) x.i)) x.own), (1, I node), (2, .d (ints ends)), (3, .ptr (nb + 3) 0 0)], lb nb box [(3, [[I s.k, B s.o, I s.near, I s.far, I s.low, I s.high]])], x.tok, x.nt⟩
def atL (c : List Int) (j : Nat) : List Int := (List.range c.length).map fun i => if i < j then (if c.getD i 0 = -1 then 0 else (1 : Int) + cntO (c.take i)) else 0
theorem atL_len (c : List Int) (j : Nat) : (atL c j).length = c.length := by simp [atL]
theorem atL_zero (c : List Int) : List.replicate c.length 0 = atL c 0 := by
 refine List.ext_getElem (by simp [atL]) fun i h1 h2 => ?_
 simp [atL]
theorem atL_end (c : List Int) : atL c c.length = gAtL c := by
 refine List.ext_getElem (by simp [atL, gAtL]) fun i h1 h2 => ?_
 have hi : i < c.length := by simpa [atL] using h1
 simp [atL, gAtL, hi]
theorem atL_set {c : List Int} {j : Nat} (h : j < c.length) (h1 : c[j] ≠ -1) : (atL c j).set j ((1 : Int) + cntO (c.take j)) = atL c (j + 1) := by
 refine List.ext_getElem (by simp [atL]) fun i a b => ?_
 rw [List.getElem_set]
 have hi : i < c.length := by simpa [atL] using a
 simp only [atL, List.getElem_map, List.getElem_range]
 by_cases e : j = i
 ·subst e
  rw [if_pos rfl, if_pos (Nat.lt_succ_self _), if_neg (by simpa [hi] using h1)]
 ·rw [if_neg e]
  by_cases h2 : i < j
  ·rw [if_pos h2, if_pos (show i < j + 1 by omega)]
  ·rw [if_neg h2, if_neg (show ¬ i < j + 1 by omega)]
theorem atL_skip {c : List Int} {j : Nat} (h : j < c.length) (h1 : c[j] = -1) : atL c j = atL c (j + 1) := by
 refine List.ext_getElem (by simp [atL]) fun i a b => ?_
 have hi : i < c.length := by simpa [atL] using a
 simp only [atL, List.getElem_map, List.getElem_range]
 by_cases e : j = i
 ·subst e
  rw [if_neg (by omega), if_pos (Nat.lt_succ_self _), if_pos (by simpa [hi] using h1)]
 ·by_cases h2 : i < j
  ·rw [if_pos h2, if_pos (show i < j + 1 by omega)]
  ·rw [if_neg h2, if_neg (show ¬ i < j + 1 by omega)]
def ndL (node : Int) (c : List Int) (j : Nat) : List Int := node :: (c.take j).filter (· != -1)
theorem ndL_len (node : Int) (c : List Int) (j : Nat) : (ndL node c j).length = 1 + cntO (c.take j) := by simp [ndL, cntO]; omega
theorem cntO_le (c : List Int) : cntO c ≤ c.length := List.length_filter_le _ _
theorem ndL_skip {node : Int} {c : List Int} {j : Nat} (h : j < c.length) (h1 : c[j] = -1) : ndL node c (j + 1) = ndL node c j := by
 unfold ndL
 rw [List.take_succ_eq_append_getElem h, List.filter_append]
 simp [h1]
theorem ndL_succ {node : Int} {c : List Int} {j : Nat} (h : j < c.length) (h1 : c[j] ≠ -1) : ndL node c (j + 1) = ndL node c j ++ [c[j]] := by
 unfold ndL
 rw [List.take_succ_eq_append_getElem h, List.filter_append]
 simp [h1]
def stG3 (s : Sd) (node : Int) (ends : List Int) (P : List (List Int)) (i : Nat) (cls : List Int) (n k : Nat) (c : List Int) (own : Own) (nb : Nat) (box : Bxs) (x : Acc) : AState :=
 ⟨tl [(64, I x.i), (63, I c.length), (62, .d (ints c)), (19, .msl (nb + 61) 0 n 1), (18, .ptr (nb + 18) 0 0), (53, I k), (52, I (choR ends n).length), (51, .d (lists (choR ends n))), (13, .d (ints cls)), (14, I n), (36, I i), (35, I P.length), (34, .d (lists P)), (10, .osl 5 (rCo (grK s node ends P i cls (choR ends n) k)) own), (1, I node), (2, .d (ints ends)), (3, .ptr (nb + 3) 0 0)],
  lb nb box [(61, rowsI (atL c x.i)), (18, [[.osl 1 (rI (ndL node c x.i)) x.own, .osl 3 [] .full]]), (3, [[I s.k, B s.o, I s.near, I s.far, I s.low, I s.high]])], x.tok, x.nt⟩
def lkL (s : Sd) (c cls : List Int) (q : Nat) : List E := (cls.take q).map fun k => s.link ((gAtL c).getD k.toNat 0)
theorem lkL_succ {s : Sd} {c cls : List Int} {q : Nat} (h : q < cls.length) : lkL s c cls (q + 1) = lkL s c cls q ++ [s.link ((gAtL c).getD cls[q].toNat 0)] := by
 unfold lkL
 rw [List.take_succ_eq_append_getElem h, List.map_append]
 rfl
theorem lkL_len (s : Sd) (c cls : List Int) (q : Nat) : (lkL s c cls q).length ≤ q := by unfold lkL; rw [List.length_map, List.length_take]; omega
def stG4 (s : Sd) (node : Int) (ends : List Int) (P : List (List Int)) (i : Nat) (cls : List Int) (n k : Nat) (c : List Int) (own : Own) (nb : Nat) (box : Bxs) (x : Acc) : AState :=
 ⟨tl [(86, I x.i), (85, I cls.length), (84, .d (ints cls)), (19, .msl (nb + 61) 0 n 1), (18, .ptr (nb + 18) 0 0), (53, I k), (52, I (choR ends n).length), (51, .d (lists (choR ends n))), (13, .d (ints cls)), (14, I n), (36, I i), (35, I P.length), (34, .d (lists P)), (10, .osl 5 (rCo (grK s node ends P i cls (choR ends n) k)) own), (1, I node), (2, .d (ints ends)), (3, .ptr (nb + 3) 0 0)],
  lb nb box [(61, rowsI (gAtL c)), (18, [[.d (ints (ndL node c c.length)), .osl 3 (rE (lkL s c cls x.i)) x.own]]), (3, [[I s.k, B s.o, I s.near, I s.far, I s.low, I s.high]])], x.tok, x.nt⟩
theorem flat_leM {α β : Type} (f : α → List β) (B : Nat) : ∀ L : List α, (∀ x ∈ L, (f x).length ≤ B) → (L.flatMap f).length ≤ L.length * B
 | [], _ => by simp
 | x :: L, h => by
  rw [List.flatMap_cons, List.length_append, List.length_cons, Nat.succ_mul]
  have h1 := h x (by simp)
  have h2 := flat_leM f B L fun y hy => h y (by simp [hy])
  omega
theorem grK_len {s : Sd} {node : Int} {ends : List Int} {P : List (List Int)} {i k : Nat} {cls : List Int} {L : List (List Int)} (hn : ends.length ≤ 100) (hP : P.length ≤ 5) (hl : ∀ p ∈ P, p.length ≤ 3) (hL : L.length ≤ 1000000) : (grK s node ends P i cls L k).length ≤ 6000000 := by
 unfold grK
 rw [List.length_append, List.length_map, List.length_take]
 have h1 := flat_leM (greP s node ends) 1000000 (P.take i) fun p hp => by
  have hp := hl p (List.mem_of_mem_take hp)
  unfold greP
  rw [List.length_map]
  obtain ⟨q1, q2, q3⟩ := numN_len p p.length
  exact choR_len3 hn (by omega)
 rw [List.length_take] at h1
 have h2 : min i P.length * 1000000 ≤ 5 * 1000000 := Nat.mul_le_mul_right _ (by omega)
 omega
theorem greatestP_c (s : Sd) (node : Int) (ends : List Int) (hn : ends.length ≤ 100) (h0 : 0 ≤ s.high) (h2 : s.high ≤ 2) (tok : Tks) (nt : Nat) : DCall Tryz.prog 105 [s.av, I node, .d (ints ends)] tok nt (.tup [.d (.sl 5 (rCo (greL s node ends))), I 0]) tok nt := by
 intro box nb
 obtain ⟨h, hh⟩ := Int.eq_ofNat_of_zero_le h0
 have hpa := all45_c (h + 1) (by omega)
 have hw1 : IntKind.i64.wrap (s.high + 1) = ((h + 1 : Nat) : Int) := by rw [hh, wrap_in (by omega) (by omega)]; rfl
 have hR : greL s node ends = (partsN (h + 1)).flatMap (greP s node ends) := by unfold greL; rw [hh]; rfl
 have hPl : (partsN (h + 1)).length ≤ 5 := by
  have : h = 0 ∨ h = 1 ∨ h = 2 := by omega
  rcases this with rfl | rfl | rfl <;> decide
 have hP1 := partsN_len (h + 1)
 have hP2 := partsN_partL (h + 1)
 refine sB Tryz.func105 Tryz.ntmps105 ?_
 intro hbox htok
 simp only at hbox htok
 apply AL.start
 try (simp [hw1])
 repeat (refine sR ?_; simp [hw1])
 refine Stop.of_d (hpa _ _) ?_
 simp
 rw [hR]
 generalize partsN (h + 1) = P at *
 try (simp)
 repeat (first | (refine sR ?_; simp) | (refine sC ?_; simp) | (refine sX ?_; simp only [AU, ↓reduceIte]))
 refine sN ?_
 refine AL.loopT (stG1 s node ends P nb box) (fun x => x.i ≤ P.length ∧ TK tok nt x.tok x.nt [x.own]) (fun x => P.length - x.i) ⟨0, .full, tok, nt⟩ ⟨Nat.zero_le _, (TK.start htok).full⟩ (Weaks.mk (Nat.le_refl _) rfl (by simp [ToL, lk, grK]) (by simp [BoxL, lk])) ?_
 rintro ⟨i, own, tok', nt'⟩ S ⟨hi, htk⟩ hS
 simp only [stG1] at hS hi htk
 subst hS
 have hw := sW (i := i) (by omega)
 by_cases hlt : i < P.length
 ·have hpl := hP1 _ (List.getElem_mem hlt)
  have hpp := hP2 _ (List.getElem_mem hlt)
  have hq := quotient86_c P[i] (by omega) hpp
  have hnext := grK_next (s := s) (node := node) (ends := ends) hlt
  try (simp [hlt])
  repeat (first | (refine sR ?_; simp [hlt]) | (refine sC ?_; simp [hlt]) | (refine sX ?_; simp only [AU, ↓reduceIte]))
  refine Stop.of_d (hq _ _) ?_
  simp
  obtain ⟨q1, q2, q3⟩ := numN_len P[i] P[i].length
  obtain ⟨n, hn2⟩ := Int.eq_ofNat_of_zero_le q2
  have hn3 : n ≤ 3 := by omega
  have hrg := numN_range hpp P[i].length (Nat.le_refl _)
  have hn4 : (numN P[i] P[i].length).2.toNat = n := by omega
  rw [hn4] at hnext
  rw [hn2]
  have hch := choicesP_c ends n hn hn3
  have hcl := choR_len3 hn hn3
  have hcm := @choR_mem ends n
  have hcls : ∀ k ∈ (numN P[i] P[i].length).1, 0 ≤ k ∧ k < n := by
   intro k hk
   obtain ⟨j, hj, rfl⟩ := List.getElem_of_mem hk
   have := hrg j hj
   omega
  have hclen : (numN P[i] P[i].length).1.length ≤ 3 := by omega
  generalize (numN P[i] P[i].length).1 = cls at *
  try (simp)
  repeat (first | (refine sR ?_; simp) | (refine sC ?_; simp) | (refine sX ?_; simp only [AU, ↓reduceIte]))
  refine Stop.of_d (hch _ _) ?_
  simp
  try (simp)
  repeat (first | (refine sR ?_; simp) | (refine sC ?_; simp) | (refine sX ?_; simp only [AU, ↓reduceIte]))
  refine sN ?_
  refine AL.loopT (stG2 s node ends P i cls n nb box) (fun x => x.i ≤ (choR ends n).length ∧ TK tok nt x.tok x.nt [x.own]) (fun x => (choR ends n).length - x.i) ⟨0, own, tok', nt'⟩ ⟨Nat.zero_le _, htk⟩ (Weaks.mk htk.le rfl (by simp [ToL, lk, grK_zero]) (by simp [BoxL, lk])) ?_
  rintro ⟨k, own2, tok2, nt2⟩ S ⟨hi2, htk2⟩ hS
  simp only [stG2] at hS hi2 htk2
  subst hS
  have hw2 := sW (i := k) (by omega)
  by_cases hlk : k < (choR ends n).length
  ·have hs := grK_succ (s := s) (node := node) (ends := ends) (P := P) (i := i) (cls := cls) hlk
   have hcn := hcm (List.getElem_mem hlk)
   have hgk := grK_len (s := s) (node := node) (i := i) (k := k) (cls := cls) hn hPl (fun p hp => by have := hP1 p hp; omega) hcl
   have hg : (choR ends n)[k]?.getD [] = (choR ends n)[k] := by simp [hlk]
   try (simp [hlk])
   repeat (first | (refine sR ?_; simp [hlk]) | (refine sC ?_; simp [hlk]) | (refine sX ?_; simp only [AU, ↓reduceIte]))
   refine ⟨by omega, ?_⟩
   try (simp [hlk])
   repeat (first | (refine sR ?_; simp [hlk]) | (refine sC ?_; simp [hlk]) | (refine sX ?_; simp only [AU, ↓reduceIte]))
   generalize (choR ends n)[k] = c at *
   have haz := atL_zero c
   rw [hcn] at haz
   rw [haz]
   refine sN ?_
   refine AL.loopT (stG3 s node ends P i cls n k c own2 nb box) (fun x => x.i ≤ c.length ∧ TK tok nt x.tok x.nt [x.own, own2]) (fun x => c.length - x.i) ⟨0, .full, tok2, nt2⟩ ⟨Nat.zero_le _, htk2.full⟩ (Weaks.mk htk2.le rfl (by simp [ToL, lk]) (by simp [BoxL, lk, ndL])) ?_
   rintro ⟨j, own3, tok3, nt3⟩ S ⟨hi3, htk3⟩ hS
   simp only [stG3] at hS hi3 htk3
   subst hS
   have hw3 := sW (i := j) (by omega)
   have hal := atL_len c j
   have hnl := ndL_len node c j
   have hcl := cntO_le (c.take j)
   rw [List.length_take] at hcl
   by_cases hlj : j < c.length
   ·by_cases h1 : c[j] = -1
    ·have b1 : (c[j] != -1) = false := by simp [h1]
     have e1 := atL_skip hlj h1
     have e2 := ndL_skip (node := node) hlj h1
     try (simp [hlj, b1, hw3])
     repeat (first | (refine sR ?_; simp [hlj, b1, hw3]) | (refine sC ?_; simp [hlj, b1, hw3]) | (refine sX ?_; simp only [AU, ↓reduceIte]))
     refine sE ?_
     exact ⟨⟨j + 1, _, _, _⟩, ⟨hlj, htk3⟩, by simp only; omega, Weaks.mk htk3.le rfl (by simp [ToL, lk]) (by simp [BoxL, lk, ← e1, e2])⟩
    ·have b1 : (c[j] != -1) = true := by simp [h1]
     have e1 := atL_set hlj h1
     have e2 := ndL_succ (node := node) hlj h1
     have hjn : j < n := by omega
     have e3 : (atL c j).set j ((ndL node c j).length : Int) = atL c (j + 1) := by rw [hnl, ← e1]; simp
     have hbn : (ndL node c j).length ≤ 4 := by omega
     try (simp [hlj, b1, hal, hjn, hcn])
     repeat (first | (refine sR ?_; simp [hlj, b1, hal, hjn, hcn]) | (refine sC ?_; simp [hlj, b1, hal, hjn, hcn]) | (refine sX ?_; simp only [AU, ↓reduceIte]))
     refine ⟨⟨by omega, htk3.live⟩, ?_⟩
     try (simp [hw3])
     repeat (first | (refine sR ?_; simp [hw3]) | (refine sC ?_; simp [hw3]) | (refine sX ?_; simp only [AU, ↓reduceIte]))
     refine sE ?_
     exact ⟨⟨j + 1, _, _, _⟩, ⟨by simp only; omega, htk3.app⟩, by simp only; omega, Weaks.mk htk3.app.le rfl (by simp [ToL, lk, hcn]) (by simp [BoxL, lk, e3, e2])⟩
   ·have : j = c.length := by omega
    subst this
    try (simp)
    repeat (first | (refine sR ?_; simp) | (refine sC ?_; simp) | (refine sX ?_; simp only [AU, ↓reduceIte]))
    have hgl : (gAtL c).length = c.length := by rw [← atL_end]; exact hal
    rw [atL_end]
    refine sN ?_
    refine AL.loopT (stG4 s node ends P i cls n k c own2 nb box) (fun x => x.i ≤ cls.length ∧ TK tok nt x.tok x.nt [x.own, own2]) (fun x => cls.length - x.i) ⟨0, .full, tok3, nt3⟩ ⟨Nat.zero_le _, htk3.tail.full⟩ (Weaks.mk htk3.le rfl (by simp [ToL, lk]) (by simp [BoxL, lk, lkL])) ?_
    rintro ⟨q, own4, tok4, nt4⟩ S ⟨hi4, htk4⟩ hS
    simp only [stG4] at hS hi4 htk4
    subst hS
    have hw4 := sW (i := q) (by omega)
    have hll := lkL_len s c cls q
    by_cases hlq : q < cls.length
    ·obtain ⟨z1, z2⟩ := hcls _ (List.getElem_mem hlq)
     have hsq := lkL_succ (s := s) (c := c) hlq
     have z3 : cls[q].toNat < (gAtL c).length := by omega
     have hgd : (gAtL c).getD cls[q].toNat 0 = (gAtL c)[cls[q].toNat] := by simp [z3]
     rw [hgd] at hsq
     have hlk := linkP_c s (gAtL c)[cls[q].toNat]
     try (simp [hlq, z1, z2, z3, hgl, hcn])
     repeat (first | (refine sR ?_; simp [hlq, z1, z2, z3, hgl, hcn]) | (refine sC ?_; simp [hlq, z1, z2, z3, hgl, hcn]) | (refine sX ?_; simp only [AU, ↓reduceIte]))
     refine Stop.of_d (hlk _ _) ?_
     simp
     refine ⟨⟨by omega, htk4.live⟩, ?_⟩
     try (simp [hw4])
     repeat (first | (refine sR ?_; simp [hw4]) | (refine sC ?_; simp [hw4]) | (refine sX ?_; simp only [AU, ↓reduceIte]))
     refine sE ?_
     exact ⟨⟨q + 1, _, _, _⟩, ⟨hlq, htk4.app⟩, by simp only; omega, Weaks.mk htk4.app.le rfl (by simp [ToL, lk]) (by simp [BoxL, lk, hsq, hcn])⟩
    ·have : q = cls.length := by omega
     subst this
     have hfin : greC s node cls c = ⟨⟨#[]⟩, 1, ⟨ndL node c c.length, lkL s c cls cls.length⟩, []⟩ := by simp [greC, greG, ndL, lkL]
     rw [hfin] at hs
     try (simp)
     repeat (first | (refine sR ?_; simp) | (refine sC ?_; simp) | (refine sX ?_; simp only [AU, ↓reduceIte]))
     refine ⟨⟨by omega, htk4.swap.live⟩, ?_⟩
     try (simp [hw2])
     repeat (first | (refine sR ?_; simp [hw2]) | (refine sC ?_; simp [hw2]) | (refine sX ?_; simp only [AU, ↓reduceIte]))
     refine sE ?_
     refine ⟨⟨k + 1, _, _, _⟩, ⟨hlk, htk4.swap.app.swap.tail⟩, by simp only; omega, Weaks.mk htk4.swap.app.le rfl ?_ (by simp [BoxL, lk])⟩
     simp [ToL, lk, hs]
     refine to_snoc ?_ _
     simp [ints, AM.edges, xts]
  ·have : k = (choR ends n).length := by omega
   subst this
   rw [hnext]
   try (simp [hw])
   repeat (first | (refine sR ?_; simp [hw]) | (refine sC ?_; simp [hw]) | (refine sX ?_; simp only [AU, ↓reduceIte]))
   refine sE ?_
   exact ⟨⟨i + 1, _, _, _⟩, ⟨hlt, htk2⟩, by simp only; omega, Weaks.mk htk2.le rfl (by simp [ToL, lk]) (by simp [BoxL, lk])⟩
 ·have : i = P.length := by omega
  subst this
  try (simp)
  repeat (first | (refine sR ?_; simp) | (refine sC ?_; simp) | (refine sX ?_; simp only [AU, ↓reduceIte]))
  refine sN ?_
  refine AL.ret ?_
  try simp only [AU]
  have hend : grK s node ends P P.length [] [] 0 = P.flatMap (greP s node ends) := by simp [grK]
  rw [hend]
  exact ⟨by simp, Fin.data (av := .tup [.d (.sl 5 (rCo (P.flatMap (greP s node ends)))), I 0]) (by simp [resAs, resA]; rfl) hbox rfl htok htk.old htk.le (by simp [packA])⟩
def bdN (t : Ty) (i : Nat) : Bool := if (t.nd i).abs = true then true else leafB t (i : Int)
def bdS (s : Sd) : Bool := if 1 < s.low then false else decide (s.high ≤ 2)
def bdR (t : Ty) : Int := if tyE t ≠ 0 then tyE t else if (List.range t.nodes.length).all (bdN t) = false then 13 else if (sdsR t).all bdS = false then 6 else 0
def stBd1 (t : Ty) (nb : Nat) (box : Bxs) (tok : Tks) (nt : Nat) (i : Nat) : AState :=
 ⟨tl [(20, I i), (19, I t.nodes.length), (18, .d (nts t.nodes)), (1, .ptr (nb + 1) 0 0)], lb nb box [(1, [[.d (nts t.nodes), .d (ets t.edges)]])], tok, nt⟩
def stBd2 (t : Ty) (nb : Nat) (box : Bxs) (tok : Tks) (nt : Nat) (i : Nat) : AState :=
 ⟨tl [(38, I i), (37, I (sdsR t).length), (36, .d (sds (sdsR t))), (1, .ptr (nb + 1) 0 0)], lb nb box [(1, [[.d (nts t.nodes), .d (ets t.edges)]])], tok, nt⟩
theorem boundedP_c (t : Ty) (ht : t.Fit) (tok : Tks) (nt : Nat) : DCall Tryz.prog 99 [t.av] tok nt (I (bdR t)) tok nt := by
 intro box nb
 have hv := valid_c4 t ht ht.hM
 have hs := sidesP_c t ht
 have htn := ht.n
 have hte := ht.e
 obtain ⟨R, hR⟩ : ∃ R, bdR t = R := ⟨_, rfl⟩
 rw [hR]
 unfold bdR at hR
 refine sB Tryz.func99 Tryz.ntmps99 ?_
 intro hbox htok
 simp only at hbox htok
 apply AL.start
 try (simp)
 repeat (refine sR ?_; simp)
 refine Stop.of_d (hv _ _) ?_
 simp
 by_cases e0 : tyE t = 0
 ·rw [if_neg (by simp [e0])] at hR
  try (simp [e0])
  repeat (first | (refine sR ?_; simp [e0]) | (refine sC ?_; simp [e0]) | (refine sX ?_; simp only [AU, ↓reduceIte]))
  refine sN ?_
  refine AL.loopT (stBd1 t nb box tok nt) (fun i => i ≤ t.nodes.length ∧ ∀ j, j < i → bdN t j = true) (fun i => t.nodes.length - i) 0 ⟨Nat.zero_le _, fun j hj => absurd hj (Nat.not_lt_zero _)⟩ (Weaks.mk (Nat.le_refl _) rfl (by simp [ToL, lk]) (by simp [BoxL, lk])) ?_
  rintro i S ⟨hi, hall⟩ hS
  simp only [stBd1] at hS
  subst hS
  have hw := sW (i := i) (by omega)
  by_cases hlt : i < t.nodes.length
  ·have hl := leafK_c t (by omega) i
   have hnd : t.nd i = t.nodes[i] := by simp [Ty.nd, hlt]
   cases ea : t.nodes[i].abs
   ·have hb : bdN t i = leafB t (i : Int) := by unfold bdN; rw [hnd, ea]; simp
    try (simp [hlt, ea])
    repeat (first | (refine sR ?_; simp [hlt, ea]) | (refine sC ?_; simp [hlt, ea]) | (refine sX ?_; simp only [AU, ↓reduceIte]))
    refine Stop.of_d (hl _ _) ?_
    simp
    cases el : leafB t (i : Int)
    ·rw [el] at hb
     have : (List.range t.nodes.length).all (bdN t) = false := List.all_eq_false.2 ⟨i, List.mem_range.2 hlt, by simp [hb]⟩
     rw [if_pos this] at hR
     try (simp)
     repeat (first | (refine sR ?_; simp) | (refine sC ?_; simp) | (refine sX ?_; simp only [AU, ↓reduceIte]))
     refine sT ?_
     try simp only [AU]
     refine ⟨by simp, sF hbox htok (fun _ h => h) (Nat.le_refl _) ?_⟩
     simp [packA, hR]
    ·rw [el] at hb
     try (simp [hw])
     repeat (first | (refine sR ?_; simp [hw]) | (refine sC ?_; simp [hw]) | (refine sX ?_; simp only [AU, ↓reduceIte]))
     refine sE ?_
     exact ⟨i + 1, ⟨hlt, fun j hj => (Nat.lt_or_ge j i).elim (hall j) fun hh => by rw [show j = i by omega]; exact hb⟩, by omega, Weaks.mk (Nat.le_refl _) rfl (by simp [ToL, lk]) (by simp [BoxL, lk])⟩
   ·have hb : bdN t i = true := by unfold bdN; rw [hnd, ea]; simp
    try (simp [hlt, ea, hw])
    repeat (first | (refine sR ?_; simp [hlt, ea, hw]) | (refine sC ?_; simp [hlt, ea, hw]) | (refine sX ?_; simp only [AU, ↓reduceIte]))
    refine sE ?_
    exact ⟨i + 1, ⟨hlt, fun j hj => (Nat.lt_or_ge j i).elim (hall j) fun hh => by rw [show j = i by omega]; exact hb⟩, by omega, Weaks.mk (Nat.le_refl _) rfl (by simp [ToL, lk]) (by simp [BoxL, lk])⟩
  ·have : i = t.nodes.length := by omega
   subst this
   have : (List.range t.nodes.length).all (bdN t) = true := List.all_eq_true.2 fun j hj => hall j (List.mem_range.1 hj)
   rw [if_neg (by simp [this])] at hR
   try (simp)
   repeat (first | (refine sR ?_; simp) | (refine sC ?_; simp) | (refine sX ?_; simp only [AU, ↓reduceIte]))
   refine Stop.of_d (hs _ _) ?_
   simp
   try (simp)
   repeat (first | (refine sR ?_; simp) | (refine sC ?_; simp) | (refine sX ?_; simp only [AU, ↓reduceIte]))
   have hsl : (sdsR t).length ≤ 2000000 := by
    unfold sdsR
    rw [sdL_len (Nat.le_refl _)]
    omega
   refine sN ?_
   refine AL.loopT (stBd2 t nb box tok nt) (fun i => i ≤ (sdsR t).length ∧ ∀ j (h : j < (sdsR t).length), j < i → bdS (sdsR t)[j] = true) (fun i => (sdsR t).length - i) 0 ⟨Nat.zero_le _, fun j _ hj => absurd hj (Nat.not_lt_zero _)⟩ (Weaks.mk (Nat.le_refl _) rfl (by simp [ToL, lk]) (by simp [BoxL, lk])) ?_
   rintro i S ⟨hi, hall2⟩ hS
   simp only [stBd2] at hS
   subst hS
   have hw := sW (i := i) (by omega)
   by_cases hlt : i < (sdsR t).length
   ·by_cases l1 : 1 < (sdsR t)[i].low
    ·have hb : bdS (sdsR t)[i] = false := by unfold bdS; rw [if_pos l1]
     have : (sdsR t).all bdS = false := List.all_eq_false.2 ⟨_, List.getElem_mem hlt, by simp [hb]⟩
     rw [if_pos this] at hR
     try (simp [hlt, l1])
     repeat (first | (refine sR ?_; simp [hlt, l1]) | (refine sC ?_; simp [hlt, l1]) | (refine sX ?_; simp only [AU, ↓reduceIte]))
     refine sT ?_
     try simp only [AU]
     refine ⟨by simp, sF hbox htok (fun _ h => h) (Nat.le_refl _) ?_⟩
     simp [packA, hR]
    ·by_cases l2 : 2 < (sdsR t)[i].high
     ·have hb : bdS (sdsR t)[i] = false := by unfold bdS; rw [if_neg l1]; simp; omega
      have : (sdsR t).all bdS = false := List.all_eq_false.2 ⟨_, List.getElem_mem hlt, by simp [hb]⟩
      rw [if_pos this] at hR
      try (simp [hlt, l1, l2])
      repeat (first | (refine sR ?_; simp [hlt, l1, l2]) | (refine sC ?_; simp [hlt, l1, l2]) | (refine sX ?_; simp only [AU, ↓reduceIte]))
      refine sT ?_
      try simp only [AU]
      refine ⟨by simp, sF hbox htok (fun _ h => h) (Nat.le_refl _) ?_⟩
      simp [packA, hR]
     ·have hb : bdS (sdsR t)[i] = true := by unfold bdS; rw [if_neg l1]; simp; omega
      try (simp [hlt, l1, l2, hw])
      repeat (first | (refine sR ?_; simp [hlt, l1, l2, hw]) | (refine sC ?_; simp [hlt, l1, l2, hw]) | (refine sX ?_; simp only [AU, ↓reduceIte]))
      refine sE ?_
      exact ⟨i + 1, ⟨hlt, fun j h hj => (Nat.lt_or_ge j i).elim (hall2 j h) fun hh => by simp only [show j = i by omega]; exact hb⟩, by omega, Weaks.mk (Nat.le_refl _) rfl (by simp [ToL, lk]) (by simp [BoxL, lk])⟩
   ·have : i = (sdsR t).length := by omega
    subst this
    have : (sdsR t).all bdS = true := by
     rw [List.all_eq_true]
     intro x hx
     obtain ⟨j, hj, rfl⟩ := List.getElem_of_mem hx
     exact hall2 j hj hj
    rw [if_neg (by simp [this])] at hR
    try (simp)
    repeat (first | (refine sR ?_; simp) | (refine sC ?_; simp) | (refine sX ?_; simp only [AU, ↓reduceIte]))
    refine sT ?_
    try simp only [AU]
    refine ⟨by simp, sF hbox htok (fun _ h => h) (Nat.le_refl _) ?_⟩
    simp [packA, hR]
 ·rw [if_pos e0] at hR
  have b : (tyE t != 0) = true := by simp [e0]
  try (simp [b])
  repeat (first | (refine sR ?_; simp [b]) | (refine sC ?_; simp [b]) | (refine sX ?_; simp only [AU, ↓reduceIte]))
  refine sT ?_
  try simp only [AU]
  refine ⟨by simp, sF hbox htok (fun _ h => h) (Nat.le_refl _) ?_⟩
  simp [packA, hR]
end Go.AM
namespace Go.Proofs
open Go.Shelf
def Tryz.lays171_ren : Go.Shelf.Ren := ⟨fun | 171 => 106 | 243 => 177 | 246 => 238 | 283 => 279 | 284 => 280 | 285 => 281 | 286 => 282 | 129 => 276 | 317 => 300 | 318 => 301 | 319 => 302 | 320 => 303 | 337 => 313 | 338 => 314 | n => n, fun | 3 => 3 | 9 => 9 | 2 => 2 | 4 => 4 | 171 => 353 | 0 => 0 | 53 => 352 | 37 => 66 | 5 => 5 | 173 => 355 | 212 => 375 | 51 => 283 | 20 => 20 | 213 => 376 | 46 => 310 | 232 => 385 | 233 => 386 | n => n, fun | 17 => 3 | 18 => 5 | 19 => 6 | n => n⟩
theorem Tryz.lays171 : Go.Proofs.Lays.n171 Tryz.prog Tryz.lays171_ren := {
 mixed := by kernel_rfl
 f129 := Tryz.func276.trans (congrArg some (by kernel_rfl))
 f171 := Tryz.func106.trans (congrArg some (by kernel_rfl))
 f243 := Tryz.func177.trans (congrArg some (by kernel_rfl))
 f246 := Tryz.func238.trans (congrArg some (by kernel_rfl))
 f283 := Tryz.func279.trans (congrArg some (by kernel_rfl))
 f284 := Tryz.func280.trans (congrArg some (by kernel_rfl))
 f285 := Tryz.func281.trans (congrArg some (by kernel_rfl))
 f286 := Tryz.func282.trans (congrArg some (by kernel_rfl))
 f317 := Tryz.func300.trans (congrArg some (by kernel_rfl))
 f318 := Tryz.func301.trans (congrArg some (by kernel_rfl))
 f319 := Tryz.func302.trans (congrArg some (by kernel_rfl))
 f320 := Tryz.func303.trans (congrArg some (by kernel_rfl))
 f337 := Tryz.func313.trans (congrArg some (by kernel_rfl))
 f338 := Tryz.func314.trans (congrArg some (by kernel_rfl))
 t0 := Tryz.underlying0
 a0 := Tryz.isAgg0
 z0 := Tryz.sizeOf0
 v0 := Tryz.zeroValue0
 t2 := Tryz.underlying2
 a2 := Tryz.isAgg2
 z2 := Tryz.sizeOf2
 v2 := Tryz.zeroValue2
 t3 := Tryz.underlying3
 a3 := Tryz.isAgg3
 z3 := Tryz.sizeOf3
 v3 := Tryz.zeroValue3
 t4 := Tryz.underlying4
 a4 := Tryz.isAgg4
 z4 := Tryz.sizeOf4
 v4 := Tryz.zeroValue4
 t5 := Tryz.underlying5
 a5 := Tryz.isAgg5
 z5 := Tryz.sizeOf5
 v5 := Tryz.zeroValue5
 t9 := Tryz.underlying9
 a9 := Tryz.isAgg9
 z9 := Tryz.sizeOf9
 v9 := Tryz.zeroValue9
 t20 := Tryz.underlying20
 a20 := Tryz.isAgg20
 z20 := Tryz.sizeOf20
 v20 := Tryz.zeroValue20
 t37 := Tryz.underlying66
 a37 := Tryz.isAgg66
 z37 := Tryz.sizeOf66
 v37 := Tryz.zeroValue66
 t46 := Tryz.underlying310
 a46 := Tryz.isAgg310
 z46 := Tryz.sizeOf310
 v46 := Tryz.zeroValue310
 t51 := Tryz.underlying283
 a51 := Tryz.isAgg283
 z51 := Tryz.sizeOf283
 v51 := Tryz.zeroValue283
 t53 := Tryz.underlying352
 a53 := Tryz.isAgg352
 z53 := Tryz.sizeOf352
 v53 := Tryz.zeroValue352
 t171 := Tryz.underlying353
 a171 := Tryz.isAgg353
 z171 := Tryz.sizeOf353
 v171 := Tryz.zeroValue353
 t173 := Tryz.underlying355
 a173 := Tryz.isAgg355
 z173 := Tryz.sizeOf355
 v173 := Tryz.zeroValue355
 t212 := Tryz.underlying375
 a212 := Tryz.isAgg375
 z212 := Tryz.sizeOf375
 v212 := Tryz.zeroValue375
 t213 := Tryz.underlying376
 a213 := Tryz.isAgg376
 z213 := Tryz.sizeOf376
 t232 := Tryz.underlying385
 a232 := Tryz.isAgg385
 z232 := Tryz.sizeOf385
 v232 := Tryz.zeroValue385
 t233 := Tryz.underlying386
 a233 := Tryz.isAgg386
 z233 := Tryz.sizeOf386
 v233 := Tryz.zeroValue386
 g17 := by kernel_rfl
 g18 := by kernel_rfl
 g19 := by kernel_rfl }
open Go.RowKit Go.Sort Go.Lib in
theorem Tryz.strconv_Itoa_small (i : Nat) (hi : i < 100) (w : World) :
  Calls Tryz.prog 106 #[.int .i64 i] w fun e w' => e = .returned (.string ⟨(Lib.decDigits i).toArray⟩) ∧ w' = w := Any.strconv_Itoa_small Tryz.lays171 i hi w
end Go.Proofs
namespace Go.AM
open Go Go.Proofs
def dgB (i : Nat) : ByteArray := ⟨(Lib.decDigits i).toArray⟩
theorem dgB_size {i : Nat} (h : i < 100) : (dgB i).size ≤ 2 := by
 unfold dgB
 by_cases h1 : i < 10
 ·rw [Lib.decDigits_one h1]; exact Nat.le_succ _
 ·rw [Lib.decDigits_two h1 h]; exact Nat.le_refl _
theorem itoaD_c (i : Nat) (h : i < 100) (tok : Tks) (nt : Nat) : DCall Tryz.prog 106 [I i] tok nt (Sb (dgB i)) tok nt := by
 intro box nb
 refine ⟨Enters.mk Tryz.func106 rfl (by kernel_rfl), fun G w vals hm hr => ?_⟩
 obtain ⟨hlen, hrv⟩ := hr
 match vals, hlen with
 | [v], _ =>
  have h0 := hrv 0 (by simp) (by simp)
  simp only [List.getElem_cons_zero] at h0
  cases h0 with | d h0 =>
  cases h0
  refine (Tryz.strconv_Itoa_small i h w).mono ?_
  rintro e w' ⟨rfl, rfl⟩
  exact ⟨_, _, _, G, rfl, ⟨rfl, rfl⟩, rfl, hm, .d (.raw rfl), Le.refl _ _, fun k hk => ⟨hk, rfl⟩⟩
end Go.AM
