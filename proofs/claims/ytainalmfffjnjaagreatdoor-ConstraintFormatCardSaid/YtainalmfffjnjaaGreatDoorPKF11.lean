/-
 Parts of the proof, as merged from many texts: a machine over data, what the functions compute, plain laws.
-/
import Derived.Test.YtainalmfffjnjaaGreatDoorPKF10
set_option linter.unusedSimpArgs false
set_option linter.unusedVariables false
namespace Go.AM
open Go Go.Proofs
theorem wst_rows {p q : Nat → Prop} {fz : Option (Nat × Nat × List (List D))} {T : TypeId} {k : Nat} {s : ByteArray} {x y : AV} {o : Own} (h : Wst T k s x y o) (hp : p k) (hq : ∀ t, q t) : RowsTo p q fz [[x, y]] [[x, y]] := by
 have hk := wst_okW h hp hq
 refine ⟨rfl, fun i h1 h2 => ⟨rfl, fun j g1 g2 => .same ?_⟩⟩
 exact hk _ (List.getElem_mem h1) _ (List.getElem_mem g1)
theorem FmOk.sizeM {f : Nat → ByteArray} {M : Nat} (h : ∀ i, (f i).size ≤ M) {i n : Nat} {s : ByteArray} (hi : i ≤ n) : (s ++ catB f i).size ≤ s.size + n * M := by
 have h1 := catB_sizeM h i
 have h2 := Nat.mul_le_mul_right M hi
 rw [ByteArray.size_append]
 omega
def stFmt (t : Ty) (c : Co) (nb : Nat) (box : Bxs) (a : FmX) : AState :=
 ⟨tl [(34, I a.i), (33, I c.exts.length), (32, .d (xts c.exts)), (7, .ptr (nb + 7) 0 0), (3, .ptr (nb + 3) 0 0), (2, .ptr (nb + 2) 0 0)], lb nb box [(7, [[a.x, a.y]]), (3, [c.row]), (2, [[.d (nts t.nodes), .d (ets t.edges)]])], a.tok, a.nt⟩
theorem bEmptyL (s : ByteArray) : (⟨#[]⟩ : ByteArray) ++ s = s := ByteArray.empty_append
set_option maxRecDepth 100000 in
theorem formatK_c (t : Ty) (ht : t.Fit) (c : Co) (hc : c.Fit) (tok : Tks) (nt : Nat) : DCall Tryz.prog 24 [t.av, c.av] tok nt (.tup [Sb (fmR t c).1, I (fmR t c).2]) tok nt := by
 intro box nb
 have h1 := validK_c t ht c hc
 have h0 := @fmC0 t c ht
 obtain ⟨N, hN⟩ : ∃ N, fmR t c = N := ⟨_, rfl⟩
 rw [hN]
 unfold fmR at hN
 generalize cnE t c = E at *
 refine sB Tryz.func24 Tryz.ntmps24 ?_
 intro hbox htok
 simp only at hbox htok
 apply AL.start
 have ht0 := TK.start htok
 try (simp)
 repeat (refine sR ?_; simp)
 refine Stop.of_d (h1 _ _) ?_
 simp
 try (simp)
 repeat (refine sR ?_; simp)
 by_cases e1 : E = 0
 ·have h := h0 e1
  rw [if_neg (by simp [e1])] at hN
  have hs0 := hdB_size h
  have hsg := grB_size h.g h.s
  have hnm := h.name
  have hw1 := fun bx => writeS_c BdT liesB (nb + 7) (nb + 52) bx tok nt (.here (nb + 7) BdT) nilS .full ⟨#[]⟩ (hdB c) ⟨.inl rfl, .inl ⟨rfl, rfl, rfl⟩⟩
  rw [bEmptyL] at hw1
  refine sC ?_
  simp [e1]
  rcases h.kind with k | k
  case' inl =>
   have hh : hdB c = ⟨#[102, 111, 114, 98, 105, 100, 32]⟩ ++ c.name ++ ⟨#[32, 123, 10]⟩ := by unfold hdB; rw [if_neg (by rw [k]; decide)]; rfl
   try (simp [k])
   repeat (first | (refine sR ?_; simp [k]) | (refine sC ?_; simp [k]) | (refine sX ?_; simp only [AU, ↓reduceIte]))
   refine ⟨by have z1 : (⟨#[32, 123, 10]⟩ : ByteArray).size = 3 := rfl; have z2 : (⟨#[102, 111, 114, 98, 105, 100, 32]⟩ : ByteArray).size = 7 := rfl; omega, by have z1 : (⟨#[32, 123, 10]⟩ : ByteArray).size = 3 := rfl; have z2 : (⟨#[102, 111, 114, 98, 105, 100, 32]⟩ : ByteArray).size = 7 := rfl; omega, ?_⟩
   rw [← hh]
  case' inr =>
   have hh : hdB c = ⟨#[114, 101, 113, 117, 105, 114, 101, 32]⟩ ++ c.name ++ ⟨#[32, 123, 10]⟩ := by unfold hdB; rw [if_pos k]; rfl
   try (simp [k])
   repeat (first | (refine sR ?_; simp [k]) | (refine sC ?_; simp [k]) | (refine sX ?_; simp only [AU, ↓reduceIte]))
   refine ⟨by have z1 : (⟨#[32, 123, 10]⟩ : ByteArray).size = 3 := rfl; have z2 : (⟨#[114, 101, 113, 117, 105, 114, 101, 32]⟩ : ByteArray).size = 8 := rfl; omega, by have z1 : (⟨#[32, 123, 10]⟩ : ByteArray).size = 3 := rfl; have z2 : (⟨#[114, 101, 113, 117, 105, 114, 101, 32]⟩ : ByteArray).size = 8 := rfl; omega, ?_⟩
   rw [← hh]
  all_goals
   have z0 : (⟨#[]⟩ : ByteArray).size = 0 := rfl
   refine Stop.of_a (hw1 _ (by simp [lb_at, lk]) (by simp [Own.liveP]) hs0.1 (by omega)) ?_
   rintro v m' ⟨rfl, t1, tok1, nt1, hF1, rfl⟩
   have hx1 := linesK_c t c.g ⟨[], []⟩ h.g (nb + 7)
   try (simp)
   repeat (first | (refine sR ?_; simp) | (refine sC ?_; simp) | (refine sX ?_; simp only [AU, ↓reduceIte]))
   refine Stop.sub (args' := [.ptr (nb + 7) 0 0, t.av, c.g.av, (Mo.mk [] []).av]) ⟨Sub.refl _, Sub.refl _, Sub.refl _, noMoSub, trivial⟩ ?_
   refine Stop.of_a (hx1 _ _ _ _ _ _ _ (hdB c) wrote (by simp [lb_at, lk]) hF1.live (by omega)) ?_
   rintro v m' ⟨rfl, x2, y2, o2, tok2, nt2, hs2, hF2, rfl⟩
   try (simp)
   repeat (first | (refine sR ?_; simp) | (refine sC ?_; simp) | (refine sX ?_; simp only [AU, ↓reduceIte]))
   refine sN ?_
   have hff := hF1.trans hF2
   have hs3 : Wst BdT (nb + 7) (hdB c ++ grB t c.g ⟨[], []⟩) x2 y2 o2 := hs2
   refine AL.loopT (stFmt t c nb box) (FmOk (xtB t c) c.exts.length (nb + 7) (hdB c ++ grB t c.g ⟨[], []⟩) .full tok nt) (fun a => c.exts.length - a.i) ⟨0, x2, y2, o2, tok2, nt2⟩ ⟨Nat.zero_le _, by simp only [catB]; rw [show ∀ s : ByteArray, s ++ ⟨#[]⟩ = s from fun s => ByteArray.append_empty]; exact hs3, hff⟩ (Weaks.mk hff.le rfl (by simp [ToL, lk]) ⟨⟨_, rfl, wst_rows hs3 (by simp [lb_at, lk]) (fun _ => trivial)⟩, by simp [BoxL, lk]⟩) ?_
   clear hx1 hs2 hs3 hff hF1 hF2 hw1
   rintro ⟨i, x1, y1, o1, tok1, nt1⟩ S hok hS
   simp only [stFmt] at hS
   subst hS
   have hii := hok.le
   simp only at hii
   have hn6 := h.n
   have hw := sW (i := i) (by omega)
   have hsz := FmOk.sizeM (s := hdB c ++ grB t c.g ⟨[], []⟩) (xtB_size h) hii
   have hn6 := h.n
   have hng := ByteArray.size_append (a := hdB c) (b := grB t c.g ⟨[], []⟩)
   have hz := sepB_size i
   by_cases hlt : i < c.exts.length
   ·have hx := linesK_c t c.exts[i].g c.exts[i].m (h.x _ (List.getElem_mem hlt)) (nb + 7)
    have hxb := xtB_at (t := t) hlt
    have hws := fun bx => writeS_c BdT liesB (nb + 7) (nb + 52) bx tok1 nt1 x1 y1 o1 (hdB c ++ grB t c.g ⟨[], []⟩ ++ catB (xtB t c) i) (sepB i) hok.st
    try (simp [hlt])
    repeat (first | (refine sR ?_; simp [hlt]) | (refine sC ?_; simp [hlt]) | (refine sX ?_; simp only [AU, ↓reduceIte]))
    refine ⟨fun i0 => ?_, fun i0 => ?_⟩
    ·
     have hsp : (⟨#[125, 32, 115, 111, 109, 101, 32, 123, 10]⟩ : ByteArray) = sepB i := by unfold sepB; rw [if_pos i0]; rfl
     try (simp)
     repeat (first | (refine sR ?_; simp) | (refine sC ?_; simp) | (refine sX ?_; simp only [AU, ↓reduceIte]))
     rw [hsp]
     refine Stop.of_a (hws _ (by simp [lb_at, lk]) hok.fol.live hz.1 (by omega)) ?_
     rintro v m' ⟨rfl, t3, tok3, nt3, hF3, rfl⟩
     try (simp)
     repeat (first | (refine sR ?_; simp) | (refine sC ?_; simp) | (refine sX ?_; simp only [AU, ↓reduceIte]))
     refine Stop.of_a (hx _ _ _ _ _ _ _ (hdB c ++ grB t c.g ⟨[], []⟩ ++ catB (xtB t c) i ++ sepB i) wrote (by simp [lb_at, lk]) hF3.live (by rw [ByteArray.size_append]; omega)) ?_
     rintro v m' ⟨rfl, x4, y4, o4, tok4, nt4, hs4, hF4, rfl⟩
     try (simp [hw])
     repeat (first | (refine sR ?_; simp [hw]) | (refine sC ?_; simp [hw]) | (refine sX ?_; simp only [AU, ↓reduceIte]))
     refine sE ?_
     have hff := hok.fol.trans (hF3.trans hF4)
     have hs5 : Wst BdT (nb + 7) (hdB c ++ grB t c.g ⟨[], []⟩ ++ catB (xtB t c) (i + 1)) x4 y4 o4 := by
      rw [show catB (xtB t c) (i + 1) = catB (xtB t c) i ++ xtB t c i from rfl, hxb, ← ByteArray.append_assoc, ← ByteArray.append_assoc]
      exact hs4
     exact ⟨⟨i + 1, x4, y4, o4, tok4, nt4⟩, ⟨hlt, hs5, hff⟩, by simp only; omega, Weaks.mk hff.le rfl (by simp [ToL, lk]) ⟨⟨_, rfl, wst_rows hs5 (by simp [lb_at, lk]) (fun _ => trivial)⟩, by simp [BoxL, lk]⟩⟩
    ·
     have hsp : (⟨#[125, 32, 111, 114, 32, 123, 10]⟩ : ByteArray) = sepB i := by unfold sepB; rw [if_neg i0]; rfl
     try (simp)
     repeat (first | (refine sR ?_; simp) | (refine sC ?_; simp) | (refine sX ?_; simp only [AU, ↓reduceIte]))
     rw [hsp]
     refine Stop.of_a (hws _ (by simp [lb_at, lk]) hok.fol.live hz.1 (by omega)) ?_
     rintro v m' ⟨rfl, t3, tok3, nt3, hF3, rfl⟩
     try (simp)
     repeat (first | (refine sR ?_; simp) | (refine sC ?_; simp) | (refine sX ?_; simp only [AU, ↓reduceIte]))
     refine Stop.of_a (hx _ _ _ _ _ _ _ (hdB c ++ grB t c.g ⟨[], []⟩ ++ catB (xtB t c) i ++ sepB i) wrote (by simp [lb_at, lk]) hF3.live (by rw [ByteArray.size_append]; omega)) ?_
     rintro v m' ⟨rfl, x4, y4, o4, tok4, nt4, hs4, hF4, rfl⟩
     try (simp [hw])
     repeat (first | (refine sR ?_; simp [hw]) | (refine sC ?_; simp [hw]) | (refine sX ?_; simp only [AU, ↓reduceIte]))
     refine sE ?_
     have hff := hok.fol.trans (hF3.trans hF4)
     have hs5 : Wst BdT (nb + 7) (hdB c ++ grB t c.g ⟨[], []⟩ ++ catB (xtB t c) (i + 1)) x4 y4 o4 := by
      rw [show catB (xtB t c) (i + 1) = catB (xtB t c) i ++ xtB t c i from rfl, hxb, ← ByteArray.append_assoc, ← ByteArray.append_assoc]
      exact hs4
     exact ⟨⟨i + 1, x4, y4, o4, tok4, nt4⟩, ⟨hlt, hs5, hff⟩, by simp only; omega, Weaks.mk hff.le rfl (by simp [ToL, lk]) ⟨⟨_, rfl, wst_rows hs5 (by simp [lb_at, lk]) (fun _ => trivial)⟩, by simp [BoxL, lk]⟩⟩
   ·have : i = c.exts.length := by omega
    subst this
    have hwe := fun bx => writeS_c BdT liesB (nb + 7) (nb + 52) bx tok1 nt1 x1 y1 o1 (hdB c ++ grB t c.g ⟨[], []⟩ ++ catB (xtB t c) c.exts.length) tClose hok.st
    try (simp)
    repeat (first | (refine sR ?_; simp) | (refine sC ?_; simp) | (refine sX ?_; simp only [AU, ↓reduceIte]))
    rw [show (⟨#[125, 10]⟩ : ByteArray) = tClose from rfl]
    refine Stop.of_a (hwe _ (by simp [lb_at, lk]) hok.fol.live (by decide) (by have : tClose.size = 2 := rfl; omega)) ?_
    rintro v m' ⟨rfl, t3, tok3, nt3, hF3, rfl⟩
    have hf := hok.fol.trans hF3
    have hlv : tok3 t3 = true := hf.live
    have hpos : 0 < (fmT t c).size := by unfold fmT; rw [ByteArray.size_append]; have : tClose.size = 2 := rfl; omega
    try (simp)
    repeat (first | (refine sR ?_; simp) | (refine sC ?_; simp) | (refine sX ?_; simp only [AU, ↓reduceIte]))
    refine Stop.of_a (stringB_c (nb + 7) _ _ _ _ (.ptr (nb + 7) 0 0) t3 (fmT t c) hpos (by simp [lb_at, lk]; rfl) hlv) ?_
    rintro v m' ⟨rfl, rfl⟩
    have htk := hf.tk tok nt [] ht0.full
    have hold : ∀ t, tok t = true → (upd tok3 t3 false) t = true := by
     intro t ht
     have h1 := (htk.own _ (by simp) t3 rfl).2.1
     have h2 := htk.lt t ht
     rw [upd_other _ _ (by omega)]
     exact htk.old t ht
    try (simp)
    repeat (first | (refine sR ?_; simp) | (refine sC ?_; simp) | (refine sX ?_; simp only [AU, ↓reduceIte]))
    refine sT ?_
    try simp only [AU]
    refine ⟨by simp, sF hbox htok hold htk.le ?_⟩
    simp [packA, ← hN]
 ·rw [if_pos (by simp [e1])] at hN
  refine sC ?_
  simp [e1]
  try (simp)
  repeat (refine sR ?_; simp)
  refine sT ?_
  try simp only [AU]
  refine ⟨by simp, sF hbox htok (fun _ h => h) (Nat.le_refl _) ?_⟩
  simp [packA, ← hN]
end Go.AM
namespace Go.AM
open Go Go.Proofs
def tDig : ByteArray := ⟨#[48, 49, 50, 51, 52, 53, 54, 55, 56, 57]⟩
theorem dig1 : ∀ n : _root_.Fin 10, tDig.extract n.val (n.val + 1) = ⟨#[UInt8.ofNat (48 + n.val)]⟩ := by decide +kernel
theorem dig_at {i : Nat} (h : i < 10) : (⟨#[48, 49, 50, 51, 52, 53, 54, 55, 56, 57]⟩ : ByteArray).extract i (i + 1) = dgB i := by
 have h1 := dig1 ⟨i, h⟩
 unfold dgB
 rw [Lib.decDigits_one h]
 exact h1
theorem dg_two {i : Nat} (h1 : ¬ i < 10) (h : i < 100) : dgB (i / 10) ++ dgB (i % 10) = dgB i := by
 unfold dgB
 rw [Lib.decDigits_two h1 h, Lib.decDigits_one (show i / 10 < 10 by omega), Lib.decDigits_one (show i % 10 < 10 by omega)]
 rfl
theorem digits1_c (i : Nat) (h : i < 10) (tok : Tks) (nt : Nat) : DCall Tryz.prog 147 [I i] tok nt (Sb (dgB i)) tok nt := by
 intro box nb
 have hd := dig_at h
 have hz : (⟨#[48, 49, 50, 51, 52, 53, 54, 55, 56, 57]⟩ : ByteArray).size = 10 := rfl
 have hw := sW (i := i) (by omega)
 have h' : (i : Int) < 10 := by omega
 refine sB Tryz.func147 Tryz.ntmps147 ?_
 intro hbox htok
 simp only at hbox htok
 apply AL.start
 have h0 : ¬ (i : Int) < 0 := by omega
 try (simp [h0, h', hw])
 repeat (first | (refine sR ?_; simp [h0, h', hw]) | (refine sC ?_; simp [h0, h', hw]) | (refine sX ?_; simp only [AU, ↓reduceIte]))
 refine ⟨by omega, ?_⟩
 refine sT ?_
 try simp only [AU]
 refine ⟨by simp, sF hbox htok (fun _ h => h) (Nat.le_refl _) ?_⟩
 simp [packA, hd]
theorem digits_c (i : Nat) (h : i < 100) (tok : Tks) (nt : Nat) : DCall Tryz.prog 147 [I i] tok nt (Sb (dgB i)) tok nt := by
 by_cases h1 : i < 10
 ·exact digits1_c i h1 tok nt
 intro box nb
 have c1 := digits1_c (i / 10) (by omega)
 have c2 := digits1_c (i % 10) (by omega)
 have hd := dg_two h1 h
 have h' : ¬ (i : Int) < 10 := by omega
 have hq : IntKind.i64.wrap ((i : Int) / 10) = ((i / 10 : Nat) : Int) := by rw [wrap_in (by omega) (by omega)]; rfl
 have hr : IntKind.i64.wrap ((i : Int) % 10) = ((i % 10 : Nat) : Int) := by rw [wrap_in (by omega) (by omega)]; rfl
 refine sB Tryz.func147 Tryz.ntmps147 ?_
 intro hbox htok
 simp only at hbox htok
 apply AL.start
 have h0 : ¬ (i : Int) < 0 := by omega
 try (simp [h0, h', hq, hr])
 repeat (first | (refine sR ?_; simp [h0, h', hq, hr]) | (refine sC ?_; simp [h0, h', hq, hr]) | (refine sX ?_; simp only [AU, ↓reduceIte]))
 refine Stop.of_d (c1 _ _) ?_
 simp
 try (simp [hq, hr])
 repeat (refine sR ?_; simp [hq, hr])
 refine Stop.of_d (c2 _ _) ?_
 simp
 trace_state
 refine ⟨by have z1 := dgB_size (i := i / 10) (by omega); have z2 := dgB_size (i := i % 10) (by omega); omega, ?_⟩
 try (simp)
 repeat (refine sR ?_; simp)
 refine sT ?_
 try simp only [AU]
 refine ⟨by simp, sF hbox htok (fun _ h => h) (Nat.le_refl _) ?_⟩
 simp [packA, hd]
end Go.AM
namespace Go.AM
open Go Go.Proofs
def srow2 (l : List ByteArray) : List (List D) := l.map fun s => [D.raw (.string s)]
theorem nmsR_at {n : Nat} {images : List Int} {i : Nat} (h : i < n) : (nmsR n images).take (i + 1) = (nmsR n images).take i ++ [if indexI images (i : Int) < 0 then nN (nxE images i) else nN (indexI images (i : Int)).toNat] := by
 have hl : i < (nmsR n images).length := by unfold nmsR; rw [nm2_len]; exact h
 rw [List.take_succ_eq_append_getElem hl]
 congr 2
 simp [nmsR, nm2, h]
def stNs (n : Nat) (images : List Int) (nb : Nat) (box : Bxs) (x : Acc) : AState := ⟨tl [(0, I n), (5, .d (ints (backL images n))), (6, I (nxE images x.i)), (7, .osl 1 (srow2 ((nmsR n images).take x.i)) x.own), (8, I x.i)], lb nb box [], x.tok, x.nt⟩
set_option maxRecDepth 100000 in
theorem nmsS_c (n : Nat) (images : List Int) (hn : n ≤ 50) (hi : images.length ≤ 50) (hd : images.Nodup) (tok : Tks) (nt : Nat) : DCall Tryz.prog 78 [I n, .d (ints images)] tok nt (.d (strs (nmsR n images))) tok nt := by
 intro box nb
 have hb := backOK images n (by omega) (by omega) hd
 have hbl : (backL images n).length = n := by simp [backL]
 have hlen : (nmsR n images).length = n := nm2_len _ _ _
 refine sB Tryz.func78 Tryz.ntmps78 ?_
 intro hbox htok
 simp only at hbox htok
 apply AL.start
 try (simp)
 repeat (refine sR ?_; simp)
 refine Stop.of_d (hb _ _) ?_
 simp
 try (simp)
 repeat (refine sR ?_; simp)
 refine sN ?_
 refine AL.loopT (stNs n images nb box) (fun a => a.i ≤ n ∧ TK tok nt a.tok a.nt [a.own]) (fun a => n - a.i) ⟨0, .full, tok, nt⟩ ⟨Nat.zero_le _, (TK.start htok).full⟩ (Weaks.mk (Nat.le_refl _) rfl (by simp [ToL, srow2, nxE, cE]) trivial) ?_
 rintro ⟨i, own, tok', nt'⟩ S ⟨hi, htk⟩ hS
 simp only [stNs] at hS hi htk
 subst hS
 have hw := sW (i := i) (by omega)
 by_cases hlt : i < n
 ·have hat := nmsR_at (images := images) hlt
  have hg : (backL images n)[i]'(by omega) = indexI images (i : Int) := by simp [backL]
  have hcl := cE_le images i
  have hcs := cE_succ images i
  by_cases hneg : indexI images (i : Int) < 0
  ·rw [if_pos hneg] at hat hcs
   have hn1 : nxE images i < 100 := by unfold nxE; omega
   have hdg := digits_c (nxE images i) hn1
   have hsz := dgB_size hn1
   have hnx : nxE images (i + 1) = nxE images i + 1 := by unfold nxE; rw [hcs]; rfl
   have hwn : IntKind.i64.wrap ((nxE images i : Int) + 1) = ((nxE images (i + 1) : Nat) : Int) := by rw [wrap_in (by omega) (by omega), hnx]; rfl
   try (simp [hlt, hg, hneg, hbl])
   repeat (first | (refine sR ?_; simp [hlt, hg, hneg, hbl]) | (refine sC ?_; simp [hlt, hg, hneg, hbl]) | (refine sX ?_; simp only [AU, ↓reduceIte]))
   refine Stop.of_d (hdg _ _) ?_
   simp
   refine ⟨by have h1 : (⟨#[110]⟩ : ByteArray).size = 1 := rfl; omega, ?_⟩
   try (simp)
   repeat (refine sR ?_; simp)
   trace_state
   refine ⟨⟨by simp [srow2, hlen]; omega, htk.live⟩, ?_⟩
   try (simp [hw, hwn])
   repeat (first | (refine sR ?_; simp [hw, hwn]) | (refine sC ?_; simp [hw, hwn]) | (refine sX ?_; simp only [AU, ↓reduceIte]))
   refine sE ?_
   refine ⟨⟨i + 1, _, _, _⟩, ⟨hlt, htk.app⟩, by simp; omega, Weaks.mk htk.app.le rfl (by simp [ToL, hat, srow2, nN]) trivial⟩
  ·rw [if_neg hneg] at hat
   rw [if_neg hneg, Nat.add_zero] at hcs
   have hnx : nxE images (i + 1) = nxE images i := by unfold nxE; omega
   obtain ⟨q, hq, hql⟩ : ∃ q : Nat, indexI images (i : Int) = (q : Int) ∧ q < images.length := by
    rcases indexI_spec images (i : Int) with ⟨h1, _⟩ | ⟨k, h2, h3, _⟩
    ·omega
    ·exact ⟨k, h2, h3⟩
   have hdg := digits_c q (by omega)
   have hsz := dgB_size (i := q) (by omega)
   rw [hq] at hg hat hneg
   try (simp [hlt, hg, hneg, hbl])
   repeat (first | (refine sR ?_; simp [hlt, hg, hneg, hbl]) | (refine sC ?_; simp [hlt, hg, hneg, hbl]) | (refine sX ?_; simp only [AU, ↓reduceIte]))
   refine Stop.of_d (hdg _ _) ?_
   simp
   refine ⟨by have h1 : (⟨#[110]⟩ : ByteArray).size = 1 := rfl; omega, ?_⟩
   try (simp)
   repeat (refine sR ?_; simp)
   refine ⟨⟨by simp [srow2, hlen]; omega, htk.live⟩, ?_⟩
   try (simp [hw])
   repeat (first | (refine sR ?_; simp [hw]) | (refine sC ?_; simp [hw]) | (refine sX ?_; simp only [AU, ↓reduceIte]))
   refine sE ?_
   refine ⟨⟨i + 1, _, _, _⟩, ⟨hlt, htk.app⟩, by simp; omega, Weaks.mk htk.app.le rfl (by simp [ToL, hat, srow2, nN, hnx]) trivial⟩
 ·have : i = n := by omega
  subst this
  rw [List.take_of_length_le (by omega)]
  try (simp)
  repeat (first | (refine sR ?_; simp) | (refine sC ?_; simp) | (refine sX ?_; simp only [AU, ↓reduceIte]))
  unfold srow2
  refine sT ?_
  try simp only [AU]
  refine ⟨by simp, sF hbox htok htk.old htk.le ?_⟩
  simp [packA, ]
end Go.AM
namespace Go.AM
open Go Go.Proofs
def stLs1 (t : Ty) (g : Gr) (m : Mo) (nm : List ByteArray) (nb : Nat) (box : Bxs) (tok : Tks) (nt : Nat) (i : Nat) : AState :=
 ⟨tl [(10, I i), (9, Sb (catB (lnN t g m nm) i)), (6, .ptr (nb + 6) 0 0), (5, .ptr (nb + 5) 0 0), (4, .ptr (nb + 4) 0 0), (3, .d (strs nm))], lb nb box [(6, [[.d (ints m.nodes), .d (ints m.edges)]]), (5, [[.d (ints g.nodes), .d (AM.edges g.edges)]]), (4, [[.d (nts t.nodes), .d (ets t.edges)]])], tok, nt⟩
def stLs2 (t : Ty) (g : Gr) (m : Mo) (nm : List ByteArray) (u : ByteArray) (nb : Nat) (box : Bxs) (tok : Tks) (nt : Nat) (i : Nat) : AState :=
 ⟨tl [(11, I i), (9, Sb (u ++ catB (lnE t g m nm) i)), (6, .ptr (nb + 6) 0 0), (5, .ptr (nb + 5) 0 0), (4, .ptr (nb + 4) 0 0), (3, .d (strs nm))], lb nb box [(6, [[.d (ints m.nodes), .d (ints m.edges)]]), (5, [[.d (ints g.nodes), .d (AM.edges g.edges)]]), (4, [[.d (nts t.nodes), .d (ets t.edges)]])], tok, nt⟩
theorem append_e (s : ByteArray) : s ++ ⟨#[]⟩ = s := ByteArray.append_empty
theorem cat_app {f : Nat → ByteArray} {i : Nat} {a b c d e : ByteArray} (h : f i = a ++ b ++ c ++ d ++ e) : catB f i ++ a ++ b ++ c ++ d ++ e = catB f (i + 1) := by
 show _ = catB f i ++ f i
 rw [h]
 simp only [ByteArray.append_assoc]
theorem cat_app2 {f : Nat → ByteArray} {i : Nat} {u a b c d e a1 b1 : ByteArray} (h : f i = a ++ b ++ c ++ d ++ e ++ a1 ++ b1) : u ++ catB f i ++ a ++ b ++ c ++ d ++ e ++ a1 ++ b1 = u ++ catB f (i + 1) := by
 show _ = u ++ (catB f i ++ f i)
 rw [h]
 simp only [ByteArray.append_assoc]
theorem cat_skip {f : Nat → ByteArray} {i : Nat} (h : f i = ⟨#[]⟩) : catB f (i + 1) = catB f i := by
 show catB f i ++ f i = _
 rw [h]
 exact ByteArray.append_empty
theorem back_neg {l : List Int} {i : Nat} : indexI l (i : Int) < 0 ↔ (i : Int) ∉ l := by
 rcases indexI_spec l (i : Int) with ⟨h1, h2⟩ | ⟨k, h2, h3, h4⟩
 ·exact ⟨fun _ => h2, fun _ => by omega⟩
 ·refine ⟨fun _ => by omega, fun h => absurd (h4 ▸ getD_mem h3) h⟩
set_option maxRecDepth 100000 in
theorem linesS_c (t : Ty) (g : Gr) (m : Mo) (h : FmH t g m) (hgn : g.nodes.length ≤ 6) (hge : g.edges.length ≤ 8) (he : m.edges.Nodup) (nm : List ByteArray) (hnm : nm.length = g.nodes.length) (hns : ∀ x ∈ nm, x.size ≤ 3) (tok : Tks) (nt : Nat) :
  DCall Tryz.prog 77 [t.av, g.av, m.av, .d (strs nm)] tok nt (Sb (lnsR t g m nm)) tok nt := by
 intro box nb
 have hmn := h.mn
 have hme := h.me
 have b1 := backOK m.nodes g.nodes.length (by omega) (by omega) h.dn
 have b2 := backOK m.edges g.edges.length (by omega) (by omega) he
 have htn := h.ty.n
 have hte := h.ty.e
 refine sB Tryz.func77 Tryz.ntmps77 ?_
 intro hbox htok
 simp only at hbox htok
 apply AL.start
 try (simp)
 repeat (refine sR ?_; simp)
 refine sN ?_
 refine AL.loopT (stLs1 t g m nm nb box tok nt) (fun i => i ≤ g.nodes.length) (fun i => g.nodes.length - i) 0 (Nat.zero_le _) (Weaks.mk (Nat.le_refl _) rfl (by simp [ToL, lk, catB]) (by simp [BoxL, lk])) ?_
 rintro i S hii hS
 simp only [stLs1] at hS
 subst hS
 have hw := sW (i := i) (by omega)
 by_cases hlt : i < g.nodes.length
 ·have hbl : (backL m.nodes g.nodes.length).length = g.nodes.length := by simp [backL]
  have hg : (backL m.nodes g.nodes.length)[i]'(by omega) = indexI m.nodes (i : Int) := by simp [backL]
  obtain ⟨z1, z2⟩ := h.kn _ (List.getElem_mem hlt)
  have hsz := catB_size (lnN_size h hns) i
  have hin : i < nm.length := by omega
  have z3 : g.nodes[i].toNat < t.nodes.length := by omega
  have hnt : t.nd g.nodes[i].toNat = t.nodes[g.nodes[i].toNat] := by simp [Ty.nd, z3]
  have hA := hns _ (List.getElem_mem hin)
  have hB := h.nd g.nodes[i].toNat
  rw [hnt] at hB
  have l1 : (⟨#[32, 32, 110, 111, 100, 101, 32]⟩ : ByteArray).size = 7 := rfl
  have l2 : (⟨#[32, 58, 32]⟩ : ByteArray).size = 3 := rfl
  have l3 : (⟨#[32, 59, 10]⟩ : ByteArray).size = 3 := rfl
  by_cases e : indexI m.nodes (i : Int) < 0
  ·have hm := back_neg.1 e
   have hf : lnN t g m nm i = ⟨#[32, 32, 110, 111, 100, 101, 32]⟩ ++ nm[i] ++ ⟨#[32, 58, 32]⟩ ++ t.nodes[g.nodes[i].toNat].name ++ ⟨#[32, 59, 10]⟩ := by
    unfold lnN
    rw [if_neg hm]
    simp [nmAt, hin, hlt, hnt, tNode, tCol, tEnd]
   try (simp [hlt])
   repeat (first | (refine sR ?_; simp [hlt]) | (refine sC ?_; simp [hlt]) | (refine sX ?_; simp only [AU, ↓reduceIte]))
   refine Stop.of_d (b1 _ _) ?_
   simp [hlt, hg, hbl, e]
   refine sC ?_
   simp [e]
   refine sR ?_
   simp [hlt, hin, z1, z2, z3]
   repeat (refine ⟨by omega, ?_⟩)
   have hcat := cat_app hf
   try (simp [hw, hcat])
   repeat (first | (refine sR ?_; simp [hw, hcat]) | (refine sC ?_; simp [hw, hcat]) | (refine sX ?_; simp only [AU, ↓reduceIte]))
   refine sE ?_
   exact ⟨i + 1, hlt, by omega, Weaks.mk (Nat.le_refl _) rfl (by simp [ToL, lk, hcat]) (by simp [BoxL, lk])⟩
  ·have hm : (i : Int) ∈ m.nodes := Decidable.not_not.1 fun h => e (back_neg.2 h)
   have hf : lnN t g m nm i = ⟨#[]⟩ := by unfold lnN; rw [if_pos hm]
   have hsk := cat_skip hf
   try (simp [hlt])
   repeat (first | (refine sR ?_; simp [hlt]) | (refine sC ?_; simp [hlt]) | (refine sX ?_; simp only [AU, ↓reduceIte]))
   refine Stop.of_d (b1 _ _) ?_
   simp [hlt, hg, hbl, e]
   try (simp [hlt, hg, hbl, e, hw])
   repeat (first | (refine sR ?_; simp [hlt, hg, hbl, e, hw]) | (refine sC ?_; simp [hlt, hg, hbl, e, hw]) | (refine sX ?_; simp only [AU, ↓reduceIte]))
   refine sE ?_
   exact ⟨i + 1, hlt, by omega, Weaks.mk (Nat.le_refl _) rfl (by simp [ToL, lk, hsk]) (by simp [BoxL, lk])⟩
 ·have : i = g.nodes.length := by omega
  subst this
  have hszn := catB_size (lnN_size h hns) g.nodes.length
  unfold lnsR
  generalize catB (lnN t g m nm) g.nodes.length = u at *
  try (simp)
  repeat (first | (refine sR ?_; simp) | (refine sC ?_; simp) | (refine sX ?_; simp only [AU, ↓reduceIte]))
  refine sN ?_
  refine AL.loopT (stLs2 t g m nm u nb box tok nt) (fun i => i ≤ g.edges.length) (fun i => g.edges.length - i) 0 (Nat.zero_le _) (Weaks.mk (Nat.le_refl _) rfl (by simp [ToL, lk, catB, append_e]) (by simp [BoxL, lk])) ?_
  rintro i S hii hS
  simp only [stLs2] at hS
  subst hS
  have hw := sW (i := i) (by omega)
  by_cases hlt : i < g.edges.length
  ·have hbl : (backL m.edges g.edges.length).length = g.edges.length := by simp [backL]
   have hg : (backL m.edges g.edges.length)[i]'(by omega) = indexI m.edges (i : Int) := by simp [backL]
   obtain ⟨z1, z2, f1, f2, g1, g2⟩ := h.ke _ (List.getElem_mem hlt)
   have hsz := catB_size (lnE_size h hns) i
   have f2' : g.edges[i].fr < nm.length := by omega
   have g2' : g.edges[i].to < nm.length := by omega
   have f3 : g.edges[i].fr.toNat < nm.length := by omega
   have g3 : g.edges[i].to.toNat < nm.length := by omega
   have z3 : g.edges[i].ty.toNat < t.edges.length := by omega
   have het : t.ed g.edges[i].ty.toNat = t.edges[g.edges[i].ty.toNat] := by simp [Ty.ed, z3]
   have hA := hns _ (List.getElem_mem f3)
   have hA2 := hns _ (List.getElem_mem g3)
   have hB := h.ed g.edges[i].ty.toNat
   rw [het] at hB
   have l1 : (⟨#[32, 32, 101, 100, 103, 101, 32]⟩ : ByteArray).size = 7 := rfl
   have l2 : (⟨#[32]⟩ : ByteArray).size = 1 := rfl
   have l3 : (⟨#[32, 59, 10]⟩ : ByteArray).size = 3 := rfl
   by_cases e : indexI m.edges (i : Int) < 0
   ·have hm := back_neg.1 e
    have hf : lnE t g m nm i = ⟨#[32, 32, 101, 100, 103, 101, 32]⟩ ++ nm[g.edges[i].fr.toNat] ++ ⟨#[32]⟩ ++ t.edges[g.edges[i].ty.toNat].name ++ ⟨#[32]⟩ ++ nm[g.edges[i].to.toNat] ++ ⟨#[32, 59, 10]⟩ := by
     unfold lnE
     rw [if_neg hm]
     simp [nmAt, f3, g3, hlt, het, tEdge, tSp, tEnd]
    have hcat := cat_app2 (u := u) hf
    try (simp [hlt])
    repeat (first | (refine sR ?_; simp [hlt]) | (refine sC ?_; simp [hlt]) | (refine sX ?_; simp only [AU, ↓reduceIte]))
    refine Stop.of_d (b2 _ _) ?_
    simp [hlt, hg, hbl, e]
    refine sC ?_
    simp [e]
    refine sR ?_
    simp [hlt, z1, z2, z3, f1, f2', f3, g1, g2', g3]
    repeat (refine ⟨by omega, ?_⟩)
    try (simp [hw, hcat])
    repeat (first | (refine sR ?_; simp [hw, hcat]) | (refine sC ?_; simp [hw, hcat]) | (refine sX ?_; simp only [AU, ↓reduceIte]))
    refine sE ?_
    exact ⟨i + 1, hlt, by omega, Weaks.mk (Nat.le_refl _) rfl (by simp [ToL, lk, hcat]) (by simp [BoxL, lk])⟩
   ·have hm : (i : Int) ∈ m.edges := Decidable.not_not.1 fun h => e (back_neg.2 h)
    have hf : lnE t g m nm i = ⟨#[]⟩ := by unfold lnE; rw [if_pos hm]
    have hsk := cat_skip hf
    try (simp [hlt])
    repeat (first | (refine sR ?_; simp [hlt]) | (refine sC ?_; simp [hlt]) | (refine sX ?_; simp only [AU, ↓reduceIte]))
    refine Stop.of_d (b2 _ _) ?_
    simp [hlt, hg, hbl, e]
    try (simp [hlt, hg, hbl, e, hw])
    repeat (first | (refine sR ?_; simp [hlt, hg, hbl, e, hw]) | (refine sC ?_; simp [hlt, hg, hbl, e, hw]) | (refine sX ?_; simp only [AU, ↓reduceIte]))
    refine sE ?_
    exact ⟨i + 1, hlt, by omega, Weaks.mk (Nat.le_refl _) rfl (by simp [ToL, lk, hsk]) (by simp [BoxL, lk])⟩
  ·have : i = g.edges.length := by omega
   subst this
   try (simp)
   repeat (first | (refine sR ?_; simp) | (refine sC ?_; simp) | (refine sX ?_; simp only [AU, ↓reduceIte]))
   refine sT ?_
   try simp only [AU]
   refine ⟨by simp, sF hbox htok (fun _ h => h) (Nat.le_refl _) ?_⟩
   simp [packA]
end Go.AM
namespace Go.AM
open Go Go.Proofs
theorem fmC0_x {t : Ty} {c : Co} (h : cnE t c = 0) : ∀ x ∈ c.exts, x.m.edges.Nodup := fun x hx => ((injM_iff _ _ _).1 ((shpE_zero (cnE_zero h).2.1).2.2.2.2 x hx).2.2).2.2
theorem nilSub : Sub nilS (.d (ints [])) := Sub.nil _ _ _
def stFmS (t : Ty) (c : Co) (u : ByteArray) (nb : Nat) (box : Bxs) (tok : Tks) (nt : Nat) (i : Nat) : AState :=
 ⟨tl [(8, I i), (7, Sb (u ++ catB (xtB t c) i)), (3, .ptr (nb + 3) 0 0), (2, .ptr (nb + 2) 0 0)], lb nb box [(3, [c.row]), (2, [[.d (nts t.nodes), .d (ets t.edges)]])], tok, nt⟩
set_option maxRecDepth 100000 in
theorem formatS_c (t : Ty) (ht : t.Fit) (c : Co) (hc : c.Fit) (tok : Tks) (nt : Nat) : DCall Tryz.prog 25 [t.av, c.av] tok nt (.tup [Sb (fmR t c).1, I (fmR t c).2]) tok nt := by
 intro box nb
 have h1 := validS_c t ht c hc
 have h0 := @fmC0 t c ht
 have h0x := @fmC0_x t c
 obtain ⟨N, hN⟩ : ∃ N, fmR t c = N := ⟨_, rfl⟩
 rw [hN]
 unfold fmR at hN
 generalize cnE t c = E at *
 refine sB Tryz.func25 Tryz.ntmps25 ?_
 intro hbox htok
 simp only at hbox htok
 apply AL.start
 try (simp)
 repeat (refine sR ?_; simp)
 refine Stop.of_d (h1 _ _) ?_
 simp
 try (simp)
 repeat (refine sR ?_; simp)
 by_cases e1 : E = 0
 ·have h := h0 e1
  have hxe := h0x e1
  rw [if_neg (by simp [e1])] at hN
  have hs0 := hdB_size h
  have hsg := grB_size h.g h.s
  have hnm := h.name
  have h6 := h.s
  have n1 := nmsS_c c.g.nodes.length [] (by omega) (by simp) (by simp)
  have nl := nm2_len c.g.nodes.length [] c.g.nodes.length
  have n2 := nmsR_size (n := c.g.nodes.length) (images := []) (by omega) (by simp)
  have l1 := linesS_c t c.g ⟨[], []⟩ h.g h6.1 h6.2 (by simp) (nmsR c.g.nodes.length []) nl n2
  refine sC ?_
  simp [e1]
  rcases h.kind with k | k
  case' inl =>
   have hh : hdB c = ⟨#[102, 111, 114, 98, 105, 100, 32]⟩ ++ c.name ++ ⟨#[32, 123, 10]⟩ := by unfold hdB; rw [if_neg (by rw [k]; decide)]; rfl
   try (simp [k])
   repeat (first | (refine sR ?_; simp [k]) | (refine sC ?_; simp [k]) | (refine sX ?_; simp only [AU, ↓reduceIte]))
   refine ⟨by have z1 : (⟨#[32, 123, 10]⟩ : ByteArray).size = 3 := rfl; have z2 : (⟨#[102, 111, 114, 98, 105, 100, 32]⟩ : ByteArray).size = 7 := rfl; omega, by have z1 : (⟨#[32, 123, 10]⟩ : ByteArray).size = 3 := rfl; have z2 : (⟨#[102, 111, 114, 98, 105, 100, 32]⟩ : ByteArray).size = 7 := rfl; omega, ?_⟩
  case' inr =>
   have hh : hdB c = ⟨#[114, 101, 113, 117, 105, 114, 101, 32]⟩ ++ c.name ++ ⟨#[32, 123, 10]⟩ := by unfold hdB; rw [if_pos k]; rfl
   try (simp [k])
   repeat (first | (refine sR ?_; simp [k]) | (refine sC ?_; simp [k]) | (refine sX ?_; simp only [AU, ↓reduceIte]))
   refine ⟨by have z1 : (⟨#[32, 123, 10]⟩ : ByteArray).size = 3 := rfl; have z2 : (⟨#[114, 101, 113, 117, 105, 114, 101, 32]⟩ : ByteArray).size = 8 := rfl; omega, by have z1 : (⟨#[32, 123, 10]⟩ : ByteArray).size = 3 := rfl; have z2 : (⟨#[114, 101, 113, 117, 105, 114, 101, 32]⟩ : ByteArray).size = 8 := rfl; omega, ?_⟩
  all_goals
   rw [← hh]
   refine Stop.sub (args' := [I c.g.nodes.length, .d (ints [])]) ⟨Sub.refl _, nilSub, trivial⟩ ?_
   refine Stop.of_d (n1 _ _) ?_
   simp
   try (simp)
   repeat (refine sR ?_; simp)
   refine Stop.sub (args' := [t.av, c.g.av, (Mo.mk [] []).av, .d (strs (nmsR c.g.nodes.length []))]) ⟨Sub.refl _, Sub.refl _, noMoSub, Sub.refl _, trivial⟩ ?_
   refine Stop.of_d (l1 _ _) ?_
   simp
   rw [show lnsR t c.g ⟨[], []⟩ (nmsR c.g.nodes.length []) = grB t c.g ⟨[], []⟩ from rfl]
   refine ⟨by omega, ?_⟩
   have hsu := ByteArray.size_append (a := hdB c) (b := grB t c.g ⟨[], []⟩)
   unfold fmT at hN
   generalize hdB c ++ grB t c.g ⟨[], []⟩ = u at *
   try (simp)
   repeat (first | (refine sR ?_; simp) | (refine sC ?_; simp) | (refine sX ?_; simp only [AU, ↓reduceIte]))
   refine sN ?_
   refine AL.loopT (stFmS t c u nb box tok nt) (fun i => i ≤ c.exts.length) (fun i => c.exts.length - i) 0 (Nat.zero_le _) (Weaks.mk (Nat.le_refl _) rfl (by simp [ToL, lk, catB, append_e]) (by simp [BoxL, lk])) ?_
   rintro i S hii hS
   simp only [stFmS] at hS
   subst hS
   have hn6 := h.n
   have hw := sW (i := i) (by omega)
   have hsz := catB_sizeM (xtB_size h) i
   have hz := sepB_size i
   by_cases hlt : i < c.exts.length
   ·have hfx := h.x _ (List.getElem_mem hlt)
    have hsx := h.xs _ (List.getElem_mem hlt)
    have hxb := xtB_at (t := t) hlt
    have hgx := grB_size hfx hsx
    have hmx := hfx.mn
    have nX := nmsS_c c.exts[i].g.nodes.length c.exts[i].m.nodes (by omega) (by omega) hfx.dn
    have nlX := nm2_len c.exts[i].g.nodes.length c.exts[i].m.nodes c.exts[i].g.nodes.length
    have n2X := nmsR_size hfx.gn hfx.mn
    have lX := linesS_c t c.exts[i].g c.exts[i].m hfx hsx.1 hsx.2 (hxe _ (List.getElem_mem hlt)) (nmsR c.exts[i].g.nodes.length c.exts[i].m.nodes) nlX n2X
    have hcat : u ++ catB (xtB t c) i ++ sepB i ++ grB t c.exts[i].g c.exts[i].m = u ++ catB (xtB t c) (i + 1) := by
     rw [show catB (xtB t c) (i + 1) = catB (xtB t c) i ++ xtB t c i from rfl, hxb]
     simp only [ByteArray.append_assoc]
    try (simp [hlt])
    repeat (first | (refine sR ?_; simp [hlt]) | (refine sC ?_; simp [hlt]) | (refine sX ?_; simp only [AU, ↓reduceIte]))
    refine ⟨fun i0 => ?_, fun i0 => ?_⟩
    ·
     have hsp : (⟨#[125, 32, 115, 111, 109, 101, 32, 123, 10]⟩ : ByteArray) = sepB i := by unfold sepB; rw [if_pos i0]; rfl
     rw [hsp] at *
     try (simp)
     repeat (first | (refine sR ?_; simp) | (refine sC ?_; simp) | (refine sX ?_; simp only [AU, ↓reduceIte]))
     refine ⟨by omega, ?_⟩
     try (simp)
     repeat (first | (refine sR ?_; simp) | (refine sC ?_; simp) | (refine sX ?_; simp only [AU, ↓reduceIte]))
     refine Stop.of_d (nX _ _) ?_
     simp
     try (simp)
     repeat (refine sR ?_; simp)
     refine Stop.of_d (lX _ _) ?_
     simp
     rw [show lnsR t c.exts[i].g c.exts[i].m (nmsR c.exts[i].g.nodes.length c.exts[i].m.nodes) = grB t c.exts[i].g c.exts[i].m from rfl]
     refine ⟨by omega, ?_⟩
     try (simp [hw])
     repeat (first | (refine sR ?_; simp [hw]) | (refine sC ?_; simp [hw]) | (refine sX ?_; simp only [AU, ↓reduceIte]))
     refine sE ?_
     exact ⟨i + 1, hlt, by omega, Weaks.mk (Nat.le_refl _) rfl (by simp [ToL, lk, hcat]) (by simp [BoxL, lk])⟩
    ·
     have hsp : (⟨#[125, 32, 111, 114, 32, 123, 10]⟩ : ByteArray) = sepB i := by unfold sepB; rw [if_neg i0]; rfl
     rw [hsp] at *
     try (simp)
     repeat (first | (refine sR ?_; simp) | (refine sC ?_; simp) | (refine sX ?_; simp only [AU, ↓reduceIte]))
     refine ⟨by omega, ?_⟩
     try (simp)
     repeat (first | (refine sR ?_; simp) | (refine sC ?_; simp) | (refine sX ?_; simp only [AU, ↓reduceIte]))
     refine Stop.of_d (nX _ _) ?_
     simp
     try (simp)
     repeat (refine sR ?_; simp)
     refine Stop.of_d (lX _ _) ?_
     simp
     rw [show lnsR t c.exts[i].g c.exts[i].m (nmsR c.exts[i].g.nodes.length c.exts[i].m.nodes) = grB t c.exts[i].g c.exts[i].m from rfl]
     refine ⟨by omega, ?_⟩
     try (simp [hw])
     repeat (first | (refine sR ?_; simp [hw]) | (refine sC ?_; simp [hw]) | (refine sX ?_; simp only [AU, ↓reduceIte]))
     refine sE ?_
     exact ⟨i + 1, hlt, by omega, Weaks.mk (Nat.le_refl _) rfl (by simp [ToL, lk, hcat]) (by simp [BoxL, lk])⟩
   ·have : i = c.exts.length := by omega
    subst this
    have z2 : (⟨#[125, 10]⟩ : ByteArray).size = 2 := rfl
    try (simp)
    repeat (first | (refine sR ?_; simp) | (refine sC ?_; simp) | (refine sX ?_; simp only [AU, ↓reduceIte]))
    refine ⟨by omega, ?_⟩
    try (simp)
    repeat (first | (refine sR ?_; simp) | (refine sC ?_; simp) | (refine sX ?_; simp only [AU, ↓reduceIte]))
    refine sT ?_
    try simp only [AU]
    refine ⟨by simp, sF hbox htok (fun _ h => h) (Nat.le_refl _) ?_⟩
    simp [packA, ← hN, tClose]
 ·rw [if_pos (by simp [e1])] at hN
  refine sC ?_
  simp [e1]
  try (simp)
  repeat (refine sR ?_; simp)
  refine sT ?_
  try simp only [AU]
  refine ⟨by simp, sF hbox htok (fun _ h => h) (Nat.le_refl _) ?_⟩
  simp [packA, ← hN]
end Go.AM
namespace Go.AM
open Go Go.Proofs
set_option maxRecDepth 100000 in
theorem lawCFormat_c (t : Ty) (c : Co) (hb : t.Big) (hc : c.Big) (tok : Tks) (nt : Nat) : DCall Tryz.prog 5 [t.av, c.av] tok nt (B true) tok nt := by
 intro box nb
 have hw := awake42_c
 have h1 := tyFew_c t hb
 have h2 := few42_c c hc
 refine sB Tryz.func5 Tryz.ntmps5 ?_
 intro hbox htok
 simp only at hbox htok
 apply AL.start
 try (simp)
 repeat (refine sR ?_; simp)
 refine Stop.of_d (hw _ _) ?_
 simp
 try (simp)
 repeat (refine sR ?_; simp)
 refine Stop.of_d (h1 _ _) ?_
 simp
 cases e1 : fewT t
 ·try (simp)
  repeat (first | (refine sR ?_; simp) | (refine sC ?_; simp) | (refine sX ?_; simp only [AU, ↓reduceIte]))
  refine Stop.of_d (hw _ _) ?_
  simp
  try (simp)
  repeat (first | (refine sR ?_; simp) | (refine sC ?_; simp) | (refine sX ?_; simp only [AU, ↓reduceIte]))
  refine sT ?_
  try simp only [AU]
  refine ⟨by simp, sF hbox htok (fun _ h => h) (Nat.le_refl _) ?_⟩
  simp [packA]
 ·try (simp)
  repeat (first | (refine sR ?_; simp) | (refine sC ?_; simp) | (refine sX ?_; simp only [AU, ↓reduceIte]))
  refine Stop.of_d (h2 _ _) ?_
  simp
  cases e2 : fewC c
  ·try (simp)
   repeat (first | (refine sR ?_; simp) | (refine sC ?_; simp) | (refine sX ?_; simp only [AU, ↓reduceIte]))
   refine Stop.of_d (hw _ _) ?_
   simp
   try (simp)
   repeat (first | (refine sR ?_; simp) | (refine sC ?_; simp) | (refine sX ?_; simp only [AU, ↓reduceIte]))
   refine sT ?_
   try simp only [AU]
   refine ⟨by simp, sF hbox htok (fun _ h => h) (Nat.le_refl _) ?_⟩
   simp [packA]
  ·have ft := fewT_fit e1
   obtain ⟨fc, _⟩ := fewC_fit e2
   have f1 := formatK_c t ft c fc
   have f2 := formatS_c t ft c fc
   generalize fmR t c = L at *
   try (simp)
   repeat (first | (refine sR ?_; simp) | (refine sC ?_; simp) | (refine sX ?_; simp only [AU, ↓reduceIte]))
   refine Stop.of_d (f1 _ _) ?_
   simp
   try (simp)
   repeat (first | (refine sR ?_; simp) | (refine sC ?_; simp) | (refine sX ?_; simp only [AU, ↓reduceIte]))
   refine Stop.of_d (f2 _ _) ?_
   simp
   try (simp)
   repeat (first | (refine sR ?_; simp) | (refine sC ?_; simp) | (refine sX ?_; simp only [AU, ↓reduceIte]))
   refine sT ?_
   try simp only [AU]
   refine ⟨by simp, sF hbox htok (fun _ h => h) (Nat.le_refl _) ?_⟩
   simp [packA]
end Go.AM
namespace Go.AM
open Go Go.Proofs Go.ChangeShapes
def rdStrs : Rdr Tryz.prog 130 (List ByteArray) := rdStr.sliceN 1 Tryz.underlying130 (by kernel_rfl) (by kernel_rfl)
abbrev AtT := ByteArray × Int × Int × List ByteArray
theorem rdAt_n (n : Nat) : RdF Tryz.prog 141 (fun x : AtT => rdStr.enc x.1 ++ (rdInt.enc x.2.1 ++ (rdInt.enc x.2.2.1 ++ rdStrs.enc x.2.2.2))) (fun x => rdStr.ok x.1 ∧ rdInt.ok x.2.1 ∧ rdInt.ok x.2.2.1 ∧ rdStrs.ok x.2.2.2) n := by
 cases n with
 | zero => exact .zero
 | succ n => exact RdF.struct4 (rdStr.f n) (rdInt.f n) (rdInt.f n) (rdStrs.f n) Tryz.underlying141 rfl rfl rfl rfl rfl (by kernel_rfl) (by kernel_rfl) (by kernel_rfl) (by kernel_rfl)
def rdAt0 : Rdr Tryz.prog 141 AtT := Rdr.ofF _ _ (fun x => by simp [rdStr.len, rdInt.len, rdStrs.len]; kernel_rfl) rdAt_n
theorem by_string : Tryz.prog.bytesOf 9 = 16 := by kernel_rfl
theorem by_attr : Tryz.prog.bytesOf 141 = 56 := by kernel_rfl
theorem by_node : Tryz.prog.bytesOf 106 = 56 := by kernel_rfl
theorem by_etype : Tryz.prog.bytesOf 143 = 64 := by kernel_rfl
theorem rdStrs_ok {l : List ByteArray} (h : rdStrs.ok l) : l.length ≤ bigN ∧ ∀ x ∈ l, x.size ≤ maxLen := by
 have h2 : l.length * Tryz.prog.bytesOf 9 ≤ reachBytes := h.2
 rw [by_string] at h2
 have : reachBytes = 140737488351232 := rfl
 exact ⟨by rw [bigN_eq]; omega, fun x hx => h.1 x hx⟩
def rdAt : Rdr Tryz.prog 141 At := rdAt0.map (fun x => ⟨x.1, x.2.1, x.2.2.1, x.2.2.2⟩) At.cells At.Big (fun _ => rfl) (fun x h => ⟨h.1, (rdStrs_ok h.2.2.2).1, (rdStrs_ok h.2.2.2).2⟩) (fun _ => by kernel_rfl)
def rdAts : Rdr Tryz.prog 104 (List At) := rdAt.sliceN 4 Tryz.underlying104 (by kernel_rfl) (by kernel_rfl)
abbrev NtT := ByteArray × Int × Bool × List At
theorem rdNt_n (n : Nat) : RdF Tryz.prog 106 (fun x : NtT => rdStr.enc x.1 ++ (rdInt.enc x.2.1 ++ (rdBool.enc x.2.2.1 ++ rdAts.enc x.2.2.2))) (fun x => rdStr.ok x.1 ∧ rdInt.ok x.2.1 ∧ rdBool.ok x.2.2.1 ∧ rdAts.ok x.2.2.2) n := by
 cases n with
 | zero => exact .zero
 | succ n => exact RdF.struct4 (rdStr.f n) (rdInt.f n) (rdBool.f n) (rdAts.f n) Tryz.underlying106 rfl rfl rfl rfl rfl (by kernel_rfl) (by kernel_rfl) (by kernel_rfl) (by kernel_rfl)
def rdNt0 : Rdr Tryz.prog 106 NtT := Rdr.ofF _ _ (fun x => by simp [rdStr.len, rdInt.len, rdBool.len, rdAts.len]; kernel_rfl) rdNt_n
theorem rdAts_ok {l : List At} (h : rdAts.ok l) : l.length ≤ bigN ∧ ∀ x ∈ l, x.Big := by
 have h2 : l.length * Tryz.prog.bytesOf 141 ≤ reachBytes := h.2
 rw [by_attr] at h2
 have : reachBytes = 140737488351232 := rfl
 exact ⟨by rw [bigN_eq]; omega, fun x hx => h.1 x hx⟩
def rdNt : Rdr Tryz.prog 106 NT := rdNt0.map (fun x => ⟨x.1, x.2.1, x.2.2.1, x.2.2.2⟩) NT.cells NT.Big (fun _ => rfl) (fun x h => ⟨h.1, (rdAts_ok h.2.2.2).1, (rdAts_ok h.2.2.2).2⟩) (fun _ => by kernel_rfl)
def rdNts : Rdr Tryz.prog 22 (List NT) := rdNt.sliceN 4 Tryz.underlying22 (by kernel_rfl) (by kernel_rfl)
abbrev EtT := ByteArray × Int × Int × Int × Int × Int × Int
theorem rdEt_n (n : Nat) : RdF Tryz.prog 143 (fun x : EtT => rdStr.enc x.1 ++ (rdInt.enc x.2.1 ++ (rdInt.enc x.2.2.1 ++ (rdInt.enc x.2.2.2.1 ++ (rdInt.enc x.2.2.2.2.1 ++ (rdInt.enc x.2.2.2.2.2.1 ++ rdInt.enc x.2.2.2.2.2.2)))))) (fun x => rdStr.ok x.1 ∧ rdInt.ok x.2.1 ∧ rdInt.ok x.2.2.1 ∧ rdInt.ok x.2.2.2.1 ∧ rdInt.ok x.2.2.2.2.1 ∧ rdInt.ok x.2.2.2.2.2.1 ∧ rdInt.ok x.2.2.2.2.2.2) n := by
 cases n with
 | zero => exact .zero
 | succ n => exact RdF.struct7 (rdStr.f n) (rdInt.f n) (rdInt.f n) (rdInt.f n) (rdInt.f n) (rdInt.f n) (rdInt.f n) Tryz.underlying143 rfl rfl rfl rfl rfl rfl rfl rfl (by kernel_rfl) (by kernel_rfl) (by kernel_rfl) (by kernel_rfl) (by kernel_rfl) (by kernel_rfl) (by kernel_rfl)
def rdEt0 : Rdr Tryz.prog 143 EtT := Rdr.ofF _ _ (fun x => by simp [rdStr.len, rdInt.len]; kernel_rfl) rdEt_n
def rdEt : Rdr Tryz.prog 143 ET := rdEt0.map (fun x => ⟨x.1, x.2.1, x.2.2.1, x.2.2.2.1, x.2.2.2.2.1, x.2.2.2.2.2.1, x.2.2.2.2.2.2⟩) ET.cells (fun e => e.name.size ≤ maxLen) (fun _ => rfl) (fun x h => h.1) (fun _ => by kernel_rfl)
def rdEts : Rdr Tryz.prog 23 (List ET) := rdEt.sliceN 7 Tryz.underlying23 (by kernel_rfl) (by kernel_rfl)
def rdTy0 : Rdr Tryz.prog 25 (List NT × List ET) := Rdr.struct2 rdNts rdEts Tryz.underlying25 rfl rfl rfl (by kernel_rfl) (by kernel_rfl)
theorem rdTy_ok {l : List NT} {m : List ET} (h : rdNts.ok l) (k : rdEts.ok m) : (Ty.mk l m).Big := by
 have h2 : l.length * Tryz.prog.bytesOf 106 ≤ reachBytes := h.2
 have k2 : m.length * Tryz.prog.bytesOf 143 ≤ reachBytes := k.2
 rw [by_node] at h2
 rw [by_etype] at k2
 have : reachBytes = 140737488351232 := rfl
 exact ⟨by rw [bigN_eq]; simp only; omega, by rw [bigN_eq]; simp only; omega, fun x hx => h.1 x hx, fun x hx => k.1 x hx⟩
def rdTy : Rdr Tryz.prog 25 Ty := rdTy0.map (fun x => ⟨x.1, x.2⟩) (fun x => [nts x.nodes, ets x.edges]) Ty.Big (fun _ => rfl) (fun x h => rdTy_ok h.1 h.2) (fun _ => by kernel_rfl)
set_option maxRecDepth 100000 in
theorem arg_types {ps : Array TypeId} {args : Array Value} {W : World} {base base' : Nat} {sp : Nat → Bool} {held : Bool} {H : Type} {enc : TypeId × Value → H} (hval : ∀ (j : Nat) t v, ps[j]? = some t → args[j]? = some v → Value.okWide Tryz.prog W .any base t v)
  (j : Nat) (v : Value) (hp : ps[j]? = some 25) (ha : args[j]? = some v) {d : DataW H} {p : List MemPlace} (h : DataW.Trod enc Tryz.prog W base' sp held 25 v d p) (hli : Light Tryz.prog 25 d) : ∃ x : Ty, x.Big ∧ RV G0 W x.av v :=
 Exists.elim (arg_agg hval j 25 v hp ha rdTy aggT_25 h hli) fun x hx => ⟨x, hx.1, hx.2⟩
end Go.AM
namespace Go.AM
end Go.AM
