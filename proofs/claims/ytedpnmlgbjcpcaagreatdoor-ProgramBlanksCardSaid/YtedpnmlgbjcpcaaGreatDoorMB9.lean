/-
  Parts of the proof, as merged from many texts: a machine over data, what the functions compute, plain laws.
-/
import Derived.Test.YtedpnmlgbjcpcaaGreatDoorMB8
import Derived.WalkKit
import Derived.ProofKit
import Derived.OpenShut
import Derived.ChangeStays
import Derived.SizedLaws
import Derived.LaidMore
import Derived.Sort.Walk0
import Derived.Lib.Fields
import Derived.Shelf.Strings.Builder1
import Derived.Shelf.Strings.Builder2
import Derived.Shelf.Small.Strs
import Derived.Shelf.Strings.BuilderF
import Derived.Shelf.Strings.BuilderK
import Derived.Shelf.Strconv.Itoa0
import Derived.Shelf.Strconv.Itoa1
import Derived.Shelf.LaysM
import Derived.Shelf.Strconv.Itoa2
import Derived.Shelf.Strconv.Itoa3
import Derived.Shelf.Strings.Search1
import Derived.Shelf.Sort.Plain
import Derived.Shelf.Strings.Prefix
import Derived.Shelf.Strings.Fields
import Derived.Shelf.Unicode.Latin
import Derived.Shelf.Bits.Mul64
import Derived.Shelf.Strings.Repeat
import Derived.Shelf.Unicode.Is16White
import Derived.Shelf.Unicode.IsSpaceAny
import Derived.Shelf.Unicode.Is16Any
import Derived.Shelf.Unicode.Is32Any
import Derived.Shelf.Unicode.ExclAny
import Derived.Shelf.Slices.Equal
import Derived.Shelf.Slices.In.SortNone
import Derived.Test.YtedpnmlgbjcpcaaGreatDoorProg
import Derived.Shelf.RegionOpenPlain
import Derived.Deep.RegionWith
import Derived.Lib.AppendIntMem
import Derived.Lib.LaidTab
import Derived.LaidSub
import Derived.MakeChecks
set_option linter.unusedSimpArgs false
set_option linter.unusedVariables false
namespace Go.AM
open Go Go.Proofs
structure AccP where
  x : TS
  ls : List Int
  o1 : Own
  o2 : Own
  tok : Nat → Bool
  nt : Nat
  f : Nat
structure PInv (L : List Tk) (R : TS) (mtok : Nat → Bool) (nt0 : Nat) (a : AccP) : Prop where
  ok : TOk L a.x
  f : rem L a.x.r ≤ a.f
  e : topR L a.f a.x = R
  l : a.x.r.bad < 0 → a.ls = a.x.ls
  n : a.ls.length ≤ a.x.ps.length
  k : TK mtok nt0 a.tok a.nt [a.o1, a.o2]
theorem PInv.of {L : List Tk} {R : TS} {mtok : Nat → Bool} {nt0 : Nat} {x : TS} {ls : List Int} {o1 o2 : Own} {tok : Nat → Bool} {nt f : Nat} (h1 : TOk L x) (h2 : rem L x.r ≤ f) (h3 : topR L f x = R) (h4 : x.r.bad < 0 → ls = x.ls) (h5 : ls.length ≤ x.ps.length) (h6 : TK mtok nt0 tok nt [o1, o2]) :
    PInv L R mtok nt0 ⟨x, ls, o1, o2, tok, nt, f⟩ := ⟨h1, h2, h3, h4, h5, h6⟩
def stPa (L : List Tk) (nb : Nat) (box : Nat → Option (List (List AV))) (a : AccP) : AState :=
  ⟨tl [(5, .d (tks L)), (8, .ptr (nb + 27) 0 0), (9, .ptr (nb + 9) 0 0), (2, .ptr (nb + 2) 0 0), (10, .osl 1 (a.ls.map fun n => [.raw (.int .i64 n)]) a.o1)],
    lb nb box [(27, [a.x.r.row L]), (9, [[.osl 5 (a.x.ps.map Pr.cells) a.o2]]), (2, [[nilS]])], a.tok, a.nt⟩
theorem topS_peek {L : List Tk} {x : TS} (h : x.r.Ok L) (hb : (topS L x).r.bad < 0) : peekB L x.r sPro = true := by
  rcases Bool.eq_false_or_eq_true (peekB L x.r sPro) with hp | hp
  · exact hp
  · exfalso
    have h1 := AdvS.take h sPro
    have h2 := AdvS.kind h1.ok 1
    have h5 := (p_adv L (L.length + 1)).2 _ h2.ok
    have e1 : ¬ (takeR L x.r sPro).bad < 0 := by
      rw [takeR, if_neg (by simp [hp])]
      unfold failR
      split
      · simp only; omega
      · rename_i hx; exact hx
    have e2 := h2.bd (by omega)
    rw [e2] at h5
    have e3 := h5.bd (by omega)
    unfold topS at hb
    simp only [e2] at hb
    simp only at e3
    rw [e3] at hb
    exact e1 hb
structure AccQ where
  ls : List Int
  o1 : Own
  tok : Nat → Bool
  nt : Nat
structure QInv (L : List Tk) (r : RS) (ls : List Int) (o2 : Own) (mtok : Nat → Bool) (nt0 : Nat) (q : AccQ) : Prop where
  p : peekB L r sPro = true → q.ls = ls ++ [lineAt L r.at']
  n : q.ls.length ≤ ls.length + 1
  k : TK mtok nt0 q.tok q.nt [q.o1, o2]
def stPq (L : List Tk) (nb : Nat) (box : Nat → Option (List (List AV))) (x : TS) (o2 : Own) (q : AccQ) : AState :=
  ⟨tl [(5, .d (tks L)), (8, .ptr (nb + 27) 0 0), (9, .ptr (nb + 9) 0 0), (2, .ptr (nb + 2) 0 0), (10, .osl 1 (q.ls.map fun n => [.raw (.int .i64 n)]) q.o1)],
    lb nb box [(27, [x.r.row L]), (9, [[.osl 5 (x.ps.map Pr.cells) o2]]), (2, [[nilS]])], q.tok, q.nt⟩
set_option maxRecDepth 100000 in
theorem parse_c (s : ByteArray) (hs : s.size ≤ 200000000000000) (tok : Nat → Bool) (nt : Nat) : DCall Tryz.prog 15 [Sb s] tok nt (.tup [prsAv (parseR s).1, I (parseR s).2.1, I (parseR s).2.2]) tok nt := by
  intro box nb
  have ht := tokens_c s hs
  obtain ⟨hT, hL⟩ := toksR_ok s
  obtain ⟨N, hN⟩ : ∃ N, parseR s = N := ⟨_, rfl⟩
  rw [hN]
  unfold parseR at hN
  generalize toksR s = K at *
  refine sB Tryz.func15 Tryz.ntmps15 ?_
  intro hbox htok
  simp only at hbox htok
  apply AL.start
  have ht0 := TK.start htok
  try (simp)
  repeat (refine sR ?_; simp)
  refine Stop.of_d (ht _ _) ?_
  simp
  try (simp)
  repeat (refine sR ?_; simp)
  by_cases he : K.2.2 = 0
  · rw [if_neg (by simp [he])] at hN
    have be : (K.2.2 != 0) = false := by simp [he]
    generalize K.1 = L at *
    have hT2 : ∀ t ∈ L, t.text.size ≤ 200000000000000 := fun t h => by have := hT t h; omega
    simp only [be]
    try (simp)
    repeat (first | (refine sR ?_; simp) | (refine sC ?_; simp) | (refine sX ?_; simp only [AU, ↓reduceIte]))
    refine sN ?_
    obtain ⟨R, hR⟩ : ∃ R, topR L (L.length + 1) ⟨⟨0, -1⟩, [], []⟩ = R := ⟨_, rfl⟩
    unfold parseL at hN
    rw [hR] at hN
    refine AL.loopT (stPa L nb box) (PInv L R tok nt) (fun a => a.f) ⟨⟨⟨0, -1⟩, [], []⟩, [], .full, .full, tok, nt, L.length + 1⟩ (PInv.of (TOk.start L) (by simp [rem]) hR (fun _ => rfl) (by simp) ht0.full.full)
      (Weaks.mk (Nat.le_refl _) rfl (by simp [ToL, lk]) (by simp [BoxL, lk])) ?_
    rintro ⟨x, ls, o1, o2, tok1, nt1, f⟩ S hinv hS
    obtain ⟨ho, hf, hRR, hls, hn, htk⟩ := hinv
    simp only [stPa] at hS ho hf hRR hls hn htk ⊢
    subst hS
    have hok := ho.ok
    have hps := ho.ln
    by_cases hc : x.r.bad < 0 ∧ (x.r.at' < L.length ∨ L.length = 0)
    · obtain ⟨hb, hc2⟩ := hc
      have hpos := rem_pos hb hok
      obtain ⟨f, rfl⟩ : ∃ f', f = f' + 1 := ⟨f - 1, by omega⟩
      rw [topR, if_pos ⟨hb, hc2⟩] at hRR
      obtain ⟨hto, hlt⟩ := topS_ok (by omega) hT2 ho hb
      have pk := peek_c L x.r sPro (nb + 27)
      have hrl := rem_le L x.r
      refine sN ?_
      refine AL.cutP (l := [_, _]) (stPa L nb box ⟨x, ls, o1, o2, tok1, nt1, f⟩) True ?_ fun _ => ?_
      · by_cases h1 : x.r.at' < L.length
        · have h1' : (x.r.at' : Int) < L.length := by omega
          try (simp [lk, hb, h1'])
          repeat (first | (refine sR ?_; simp [lk, hb, h1']) | (refine sC ?_; simp [lk, hb, h1']) | (refine sX ?_; simp only [AU, ↓reduceIte]))
          refine sE ?_
          first | exact ⟨trivial, (Weaks.mk htk.le rfl (by simp [stPa, ToL, lk]) (by simp [stPa, BoxL, lk]))⟩ | exact (Weaks.mk htk.le rfl (by simp [stPa, ToL, lk]) (by simp [stPa, BoxL, lk]))
        · have h1' : ¬ (x.r.at' : Int) < L.length := by omega
          have h2' : ((L.length : Int) == 0) = true := by rw [beq_iff_eq]; omega
          try (simp [lk, hb, h1', h2'])
          repeat (first | (refine sR ?_; simp [lk, hb, h1', h2']) | (refine sC ?_; simp [lk, hb, h1', h2']) | (refine sX ?_; simp only [AU, ↓reduceIte]))
          refine sE ?_
          first | exact ⟨trivial, (Weaks.mk htk.le rfl (by simp [stPa, ToL, lk]) (by simp [stPa, BoxL, lk]))⟩ | exact (Weaks.mk htk.le rfl (by simp [stPa, ToL, lk]) (by simp [stPa, BoxL, lk]))
      · simp only [stPa]
        refine sN ?_
        refine AL.cut (l := [_, _]) (stPq L nb box x o2) (QInv L x.r ls o2 tok nt) ?_ ?_
        · try (simp)
          repeat (refine sR ?_; simp)
          refine Stop.of_a (pk _ (by simp [lb_at, lk]) _ _ _) ?_
          rintro v m ⟨rfl, rfl⟩
          cases hp : peekB L x.r sPro
          · try (simp)
            repeat (first | (refine sR ?_; simp) | (refine sC ?_; simp) | (refine sX ?_; simp only [AU, ↓reduceIte]))
            refine sE ?_
            exact ⟨⟨ls, o1, tok1, nt1⟩, ⟨by simp [hp], by simp, htk⟩, Weaks.mk htk.le rfl (by simp [stPq, ToL, lk]) (by simp [stPq, BoxL, lk])⟩
          · have hpp := hp
            unfold peekB at hpp
            simp only [Bool.and_eq_true, decide_eq_true_eq] at hpp
            have hpa := at_lt hpp.2
            have hpa' : (x.r.at' : Int) < L.length := by omega
            have hli : lineAt L x.r.at' = L[x.r.at'].line := by simp [lineAt, hpa]
            try (simp [lk, hpa, hpa'])
            repeat (first | (refine sR ?_; simp [lk, hpa, hpa']) | (refine sC ?_; simp [lk, hpa, hpa']) | (refine sX ?_; simp only [AU, ↓reduceIte]))
            refine ⟨⟨by omega, htk.live⟩, ?_⟩
            try (simp)
            repeat (first | (refine sR ?_; simp) | (refine sC ?_; simp) | (refine sX ?_; simp only [AU, ↓reduceIte]))
            refine sE ?_
            exact ⟨⟨ls ++ [lineAt L x.r.at'], .tok nt1, upd (o1.kill tok1) nt1 true, nt1 + 1⟩, ⟨fun _ => rfl, by simp, htk.app⟩, Weaks.mk (by have := htk.le; omega) rfl (by simp [stPq, ToL, lk, hli]) (by simp [stPq, BoxL, lk])⟩
        · rintro ⟨ls2, o3, tok2, nt2⟩ hq
          obtain ⟨hqp, hqn, htk2⟩ := hq
          simp only [stPq] at hqp hqn htk2 ⊢
          have hpeek := topS_peek (L := L) hok
          have t1 := take_c L x.r hok (by omega) sPro (nb + 27)
          have h1 := AdvS.take hok sPro
          have hT1 : topS L x = ⟨(pBlk L (L.length + 1) (kindR L (takeR L x.r sPro) 1).2).2, x.ps ++ [⟨(kindR L (takeR L x.r sPro) 1).1, (pBlk L (L.length + 1) (kindR L (takeR L x.r sPro) 1).2).1⟩], x.ls ++ [lineAt L x.r.at']⟩ := rfl
          generalize takeR L x.r sPro = r1 at *
          have k1 := kind_c L r1 h1.ok (by omega) 1 (nb + 27)
          have h2 := AdvS.kind h1.ok 1
          obtain ⟨w, r2, hw⟩ : ∃ w r2, kindR L r1 1 = (w, r2) := ⟨_, _, rfl⟩
          rw [hw] at k1 h2 hT1
          simp only at k1 h2 hT1
          have b1 := (p_all L (by omega) hT2 (L.length + 1)).2 r2 h2.ok (rem_le L r2) (nb + 27)
          obtain ⟨c, r3, hc3⟩ : ∃ c r3, pBlk L (L.length + 1) r2 = (c, r3) := ⟨_, _, rfl⟩
          rw [hc3] at hT1
          simp only [hc3] at b1 hT1
          try (simp)
          repeat (first | (refine sR ?_; simp) | (refine sC ?_; simp) | (refine sX ?_; simp only [AU, ↓reduceIte]))
          refine Stop.of_a (t1 _ (by simp [lb_at, lk]) _ _ _) ?_
          rintro v m ⟨rfl, rfl⟩
          try (simp)
          repeat (first | (refine sR ?_; simp) | (refine sC ?_; simp) | (refine sX ?_; simp only [AU, ↓reduceIte]))
          refine Stop.of_a (k1 _ (by simp [lb_at, lk]) _ _ _) ?_
          rintro v m ⟨rfl, rfl⟩
          try (simp)
          repeat (first | (refine sR ?_; simp) | (refine sC ?_; simp) | (refine sX ?_; simp only [AU, ↓reduceIte]))
          refine Stop.of_a (b1 _ (by simp [lb_at, lk]) _ _ _) ?_
          rintro v m ⟨rfl, rfl⟩
          try (simp [lk])
          repeat (first | (refine sR ?_; simp [lk]) | (refine sC ?_; simp [lk]) | (refine sX ?_; simp only [AU, ↓reduceIte]))
          refine ⟨⟨by omega, htk2.swap.live⟩, ?_⟩
          try (simp)
          repeat (first | (refine sR ?_; simp) | (refine sC ?_; simp) | (refine sX ?_; simp only [AU, ↓reduceIte]))
          refine sE ?_
          refine ⟨⟨topS L x, ls2, o3, .tok nt2, upd (o2.kill tok2) nt2 true, nt2 + 1, f⟩, PInv.of hto (by omega) hRR (fun hb2 => ?_) ?_ htk2.swap.app.swap, by simp only; omega, ?_⟩
          · rw [hqp (hpeek hb2), hls hb]; rfl
          · rw [hT1]; simp; omega
          · simp only [stPa, hT1]
            exact Weaks.mk (by have := htk2.le; omega) rfl (by simp [ToL, lk]) (by simp [BoxL, lk, Pr.cells])
    · have hRx : R = x := by
        cases f with
        | zero => exact hRR.symm
        | succ f => rw [topR, if_neg hc] at hRR; exact hRR.symm
      have hexit : ¬ x.r.bad < 0 ∨ (¬ x.r.at' < L.length ∧ ¬ L.length = 0) := by omega
      rw [hRx] at hN
      have hfc := fault_c x.ps [] false (ho.prs (by omega)) (by simp)
      have hrg := faultR_rng x.ps [] false
      have hlsl := ho.ls
      have hrl := rem_le L x.r
      by_cases hb0 : 0 ≤ x.r.bad
      · have hb : ¬ x.r.bad < 0 := by omega
        by_cases hz : L.length = 0
        · rw [if_pos hz] at hN
          have hz' : ((L.length : Int) == 0) = true := by rw [beq_iff_eq]; omega
          try (simp [lk, hb])
          repeat (first | (refine sR ?_; simp [lk, hb]) | (refine sC ?_; simp [lk, hb]) | (refine sX ?_; simp only [AU, ↓reduceIte]))
          try (simp [lk, hb0, hz'])
          repeat (first | (refine sR ?_; simp [lk, hb0, hz']) | (refine sC ?_; simp [lk, hb0, hz']) | (refine sX ?_; simp only [AU, ↓reduceIte]))
          refine sT ?_
          try simp only [AU]
          refine ⟨by simp, sF hbox htok htk.old htk.le ?_⟩
          simp [packA, ← hN, prs]
        · rw [if_neg hz, if_pos hb0] at hN
          have hz' : ((L.length : Int) == 0) = false := by rw [beq_eq_false_iff_ne]; omega
          by_cases hge : (L.length : Int) ≤ x.r.bad
          · have hbl : badLine L x.r.bad = lineAt L (L.length - 1) := by unfold badLine; rw [if_neg (by omega)]
            have hli : lineAt L (L.length - 1) = L[L.length - 1].line := by simp [lineAt, show L.length - 1 < L.length by omega]
            rw [hbl, hli] at hN
            have hw : IntKind.i64.wrap ((L.length : Int) - 1) = (L.length : Int) - 1 := wrap_in (by omega) (by omega)
            have q1 : (0 : Int) ≤ (L.length : Int) - 1 := by omega
            have q2 : ((L.length : Int) - 1).toNat = L.length - 1 := by omega
            have q3 : L.length - 1 < L.length := by omega
            have q4 : (L.length : Int) - 1 < L.length := by omega
            try (simp [lk, hb])
            repeat (first | (refine sR ?_; simp [lk, hb]) | (refine sC ?_; simp [lk, hb]) | (refine sX ?_; simp only [AU, ↓reduceIte]))
            try (simp [lk, hb0, hz', hge, hw, q1, q2, q3, q4])
            repeat (first | (refine sR ?_; simp [lk, hb0, hz', hge, hw, q1, q2, q3, q4]) | (refine sC ?_; simp [lk, hb0, hz', hge, hw, q1, q2, q3, q4]) | (refine sX ?_; simp only [AU, ↓reduceIte]))
            refine ⟨by omega, ?_⟩
            try (simp [q1, q2, q3, q4])
            repeat (first | (refine sR ?_; simp [q1, q2, q3, q4]) | (refine sC ?_; simp [q1, q2, q3, q4]) | (refine sX ?_; simp only [AU, ↓reduceIte]))
            refine sT ?_
            try simp only [AU]
            refine ⟨by simp, sF hbox htok htk.old htk.le ?_⟩
            simp [packA, ← hN, prs]
          · have hbt : x.r.bad.toNat < L.length := by omega
            have hbl : badLine L x.r.bad = L[x.r.bad.toNat].line := by unfold badLine; rw [if_pos (by omega)]; simp [lineAt, hbt]
            have hlt' : x.r.bad < L.length := by omega
            rw [hbl] at hN
            try (simp [lk, hb])
            repeat (first | (refine sR ?_; simp [lk, hb]) | (refine sC ?_; simp [lk, hb]) | (refine sX ?_; simp only [AU, ↓reduceIte]))
            try (simp [lk, hb0, hz', hge, hbt, hlt'])
            repeat (first | (refine sR ?_; simp [lk, hb0, hz', hge, hbt, hlt']) | (refine sC ?_; simp [lk, hb0, hz', hge, hbt, hlt']) | (refine sX ?_; simp only [AU, ↓reduceIte]))
            refine sT ?_
            try simp only [AU]
            refine ⟨by simp, sF hbox htok htk.old htk.le ?_⟩
            simp [packA, ← hN, prs]
      · have hb : x.r.bad < 0 := by omega
        have h1 : ¬ x.r.at' < L.length := by omega
        have h2 : ¬ L.length = 0 := by omega
        rw [if_neg h2, if_neg hb0] at hN
        have h1' : ¬ (x.r.at' : Int) < L.length := by omega
        have h2' : ((L.length : Int) == 0) = false := by rw [beq_eq_false_iff_ne]; omega
        obtain ⟨F, hF⟩ : ∃ F, faultR x.ps [] false = F := ⟨_, rfl⟩
        rw [hF] at hN hfc hrg
        try (simp [lk, hb, h1', h2'])
        repeat (first | (refine sR ?_; simp [lk, hb, h1', h2']) | (refine sC ?_; simp [lk, hb, h1', h2']) | (refine sX ?_; simp only [AU, ↓reduceIte]))
        try (simp [lk, hb0])
        repeat (first | (refine sR ?_; simp [lk, hb0]) | (refine sC ?_; simp [lk, hb0]) | (refine sX ?_; simp only [AU, ↓reduceIte]))
        refine Stop.sub (args' := [prsAv x.ps, .d (rules46 []), B false]) ⟨fun _ _ _ h => h.asD, Sub.nil _ _ _, Sub.refl _, trivial⟩ ?_
        refine Stop.of_d (hfc _ _) ?_
        simp
        by_cases he2 : F.2 = 0
        · have b2 : (F.2 != 0) = false := by simp [he2]
          rw [if_neg (by simp [he2])] at hN
          try (simp [b2, lk])
          repeat (first | (refine sR ?_; simp [b2, lk]) | (refine sC ?_; simp [b2, lk]) | (refine sX ?_; simp only [AU, ↓reduceIte]))
          refine sT ?_
          try simp only [AU]
          refine ⟨by simp, sF hbox htok htk.old htk.le ?_⟩
          simp [packA, ← hN, prs]
        · have b2 : (F.2 != 0) = true := by simp [he2]
          rw [if_pos he2] at hN
          rcases hrg with hi | hi
          · have hi' : ¬ 0 ≤ F.1 := by omega
            rw [if_neg hi'] at hN
            try (simp [b2, hi', lk])
            repeat (first | (refine sR ?_; simp [b2, hi', lk]) | (refine sC ?_; simp [b2, hi', lk]) | (refine sX ?_; simp only [AU, ↓reduceIte]))
            refine sT ?_
            try simp only [AU]
            refine ⟨by simp, sF hbox htok htk.old htk.le ?_⟩
            simp [packA, ← hN, prs]
          · have hlq := hls hb
            have hil : F.1.toNat < ls.length := by rw [hlq]; omega
            have hil' : F.1 < ls.length := by omega
            have hgd : x.ls.getD F.1.toNat 0 = ls[F.1.toNat] := by rw [← hlq]; simp [List.getD_eq_getElem?_getD, hil]
            rw [if_pos hi.1, hgd] at hN
            try (simp [b2, hi.1, lk, hil, hil'])
            repeat (first | (refine sR ?_; simp [b2, hi.1, lk, hil, hil']) | (refine sC ?_; simp [b2, hi.1, lk, hil, hil']) | (refine sX ?_; simp only [AU, ↓reduceIte]))
            refine sT ?_
            try simp only [AU]
            refine ⟨by simp, sF hbox htok htk.old htk.le ?_⟩
            simp [packA, ← hN, prs]
  · rw [if_pos he] at hN
    have be : (K.2.2 != 0) = true := by simp [he]
    simp only [be]
    try (simp)
    repeat (first | (refine sR ?_; simp) | (refine sC ?_; simp) | (refine sX ?_; simp only [AU, ↓reduceIte]))
    refine sT ?_
    try simp only [AU]
    refine ⟨by simp, sF hbox htok (fun _ h => h) (Nat.le_refl _) ?_⟩
    simp [packA, ← hN, prs]
end Go.AM
namespace Go.AM
open Go Go.Proofs
end Go.AM
namespace Go.AM
open Go Go.Proofs
end Go.AM
namespace Go.AM
open Go Go.Proofs
end Go.AM
namespace Go.AM
open Go Go.Proofs
end Go.AM
namespace Go.AM
open Go Go.Proofs
structure AccU where
  a : Nat
  line : Int
  out : List Tk
  own : Own
  tok : Nat → Bool
  nt : Nat
  f : Nat
structure UkInv (s : ByteArray) (R : List Tk × Int × Int) (mtok : Nat → Bool) (nt0 : Nat) (x : AccU) : Prop where
  a : x.a ≤ s.size
  f : s.size - x.a ≤ x.f
  l0 : 0 ≤ x.line
  l1 : x.line ≤ 1 + x.a
  n : x.out.length ≤ 4000
  r : toksF x.f (dropB s x.a) x.line x.out = R
  k : TK mtok nt0 x.tok x.nt [x.own]
theorem UkInv.of {s : ByteArray} {R : List Tk × Int × Int} {mtok : Nat → Bool} {nt0 : Nat} {a : Nat} {line : Int} {out : List Tk} {own : Own} {tok : Nat → Bool} {nt f : Nat} (h1 : a ≤ s.size) (h2 : s.size - a ≤ f) (h3 : 0 ≤ line) (h4 : line ≤ 1 + a) (h5 : out.length ≤ 4000)
    (h6 : toksF f (dropB s a) line out = R) (h7 : TK mtok nt0 tok nt [own]) : UkInv s R mtok nt0 ⟨a, line, out, own, tok, nt, f⟩ := ⟨h1, h2, h3, h4, h5, h6, h7⟩
end Go.AM
namespace Go.AM
open Go Go.Proofs
structure PInv2 (L : List Tk) (R : TS) (mtok : Nat → Bool) (nt0 : Nat) (a : AccP) : Prop where
  ok : TOk L a.x
  f : rem L a.x.r ≤ a.f
  e : topR L a.f a.x = R
  l : a.ls = a.x.ls
  k : TK mtok nt0 a.tok a.nt [a.o1, a.o2]
theorem PInv2.of {L : List Tk} {R : TS} {mtok : Nat → Bool} {nt0 : Nat} {x : TS} {ls : List Int} {o1 o2 : Own} {tok : Nat → Bool} {nt f : Nat} (h1 : TOk L x) (h2 : rem L x.r ≤ f) (h3 : topR L f x = R) (h4 : ls = x.ls) (h6 : TK mtok nt0 tok nt [o1, o2]) :
    PInv2 L R mtok nt0 ⟨x, ls, o1, o2, tok, nt, f⟩ := ⟨h1, h2, h3, h4, h6⟩
end Go.AM
namespace Go.AM
open Go Go.Proofs
theorem aw_uses : usesR exP [nMerge, nPay] nMain = ([nMerge, nPay], 0) := by kernel_rfl
theorem aw_exp : expandR exP nMain = (.mk 2 ⟨#[]⟩ 0 [cApply nPay, exLoop], 0) := by kernel_rfl
theorem aw_fmt : fmtR exP = (fmPs exP, 0) := by kernel_rfl
def awText : ByteArray := ⟨#[112, 114, 111, 99, 101, 100, 117, 114, 101, 32, 116, 105, 100, 121, 32, 123, 32, 108, 111, 111, 112, 32, 123, 32, 97, 112, 112, 108, 121, 32, 109, 101, 114, 103, 101, 32, 59, 32, 125, 32, 125, 32, 112, 114, 111, 99, 101, 100, 117, 114, 101, 32, 109, 97, 105, 110, 32, 123, 32, 97, 112, 112, 108, 121, 32, 112, 97, 121, 32, 59, 32, 99, 97, 108, 108, 32, 116, 105, 100, 121, 32, 59, 32, 125]⟩
def awPre : ByteArray := ⟨#[112, 114, 111, 99, 101, 100, 117, 114, 101, 32, 116, 105, 100, 121, 32, 123, 10, 32, 32, 108, 111, 111, 112, 32, 123, 10, 32, 32, 32, 32, 97, 112, 112, 108, 121, 32, 109, 101, 114, 103, 101, 32, 59, 10]⟩
theorem aw_parse : parseR awText = (exP, 0, 0) := by kernel_rfl
theorem aw_pre : Lib.hasPrefix (fmPs exP).data.toList awPre.data.toList = true := by kernel_rfl
theorem exP_ok : PrsOk exP := by
  refine ⟨by decide, ?_, ?_, ?_⟩
  · intro q hq
    simp only [exP, List.mem_cons, List.not_mem_nil, or_false] at hq
    rcases hq with rfl | rfl <;> decide
  · have h1 : ∀ s : ByteArray, s.size ≤ 200000000000000 → (cApply s).Sm := fun s h => .mk h (by show 0 ≤ _; omega) (fun x hx => by simp [cApply, Cm.kids] at hx)
    have h2 : (Cm.mk 10 nTidy 0 []).Sm := .mk (by decide) (by decide) (fun x hx => by simp [Cm.kids] at hx)
    intro q hq
    simp only [exP, List.mem_cons, List.not_mem_nil, or_false] at hq
    rcases hq with rfl | rfl
    · exact .mk (by decide) (by decide) (fun x hx => by simp [exLoop, Cm.kids] at hx; subst hx; exact h1 _ (by decide))
    · exact .mk (by decide) (by decide) (fun x hx => by
        simp [exMain, Cm.kids] at hx
        rcases hx with rfl | rfl
        · exact h1 _ (by decide)
        · exact h2)
  · intro q hq
    simp only [exP, List.mem_cons, List.not_mem_nil, or_false] at hq
    rcases hq with rfl | rfl <;> decide
theorem exLoop_cells : exLoop.cells = [lInt 5, lStr ⟨#[]⟩, lInt 0, cms [cApply nMerge]] := by rw [Cm.cells_eq]; rfl
set_option maxRecDepth 100000 in
theorem awake_c (tok : Nat → Bool) (nt : Nat) : DCall Tryz.prog 11 [] tok nt (B true) tok nt := by
  intro box nb
  refine sB Tryz.func11 Tryz.ntmps11 ?_
  intro hbox htok
  simp only at hbox htok
  apply AL.start
  try (simp)
  repeat (first | (refine sR ?_; simp) | (refine sC ?_; simp) | (refine sX ?_; simp only [AU, ↓reduceIte]))
  refine Stop.of_d (example_c _ _) ?_
  simp
  refine ⟨rfl, ?_⟩
  refine Stop.data ?_
  refine Stop.of_d (named_c [nMerge, nPay] (by decide) _ _) ?_
  simp
  have hu := uses_c exP [nMerge, nPay] nMain exP_ok (by decide)
  rw [aw_uses] at hu
  refine Stop.of_d (hu _ _) ?_
  simp
  try (simp)
  repeat (first | (refine sR ?_; simp) | (refine sC ?_; simp) | (refine sX ?_; simp only [AU, ↓reduceIte]))
  refine Stop.of_d (example_c _ _) ?_
  simp
  have he := expand_c exP nMain exP_ok
  rw [aw_exp] at he
  refine Stop.of_d (he _ _) ?_
  simp
  try (simp [Cm.kind, Cm.name, Cm.num, Cm.kids])
  repeat (first | (refine sR ?_; simp [Cm.kind, Cm.name, Cm.num, Cm.kids]) | (refine sC ?_; simp [Cm.kind, Cm.name, Cm.num, Cm.kids]) | (refine sX ?_; simp only [AU, ↓reduceIte]))
  refine Stop.of_d (example_c _ _) ?_
  simp
  have hf := format_c exP exP_ok
  rw [aw_fmt] at hf
  refine Stop.of_d (hf _ _) ?_
  simp
  try (simp)
  repeat (first | (refine sR ?_; simp) | (refine sC ?_; simp) | (refine sX ?_; simp only [AU, ↓reduceIte]))
  have hp := parse_c awText (by decide)
  rw [aw_parse] at hp
  refine Stop.of_d (hp _ _) ?_
  simp
  try (simp)
  repeat (first | (refine sR ?_; simp) | (refine sC ?_; simp) | (refine sX ?_; simp only [AU, ↓reduceIte]))
  refine ⟨rfl, ?_⟩
  refine Stop.data ?_
  refine Stop.of_d (equalS_c [nMerge, nPay] [nMerge, nPay] (by decide) (by decide) _ _) ?_
  simp
  try (simp [exLoop_cells])
  repeat (first | (refine sR ?_; simp [exLoop_cells]) | (refine sC ?_; simp [exLoop_cells]) | (refine sX ?_; simp only [AU, ↓reduceIte]))
  have hx := hasPrefix_c (fmPs exP) awPre
  rw [aw_pre] at hx
  refine Stop.of_d (hx _ _) ?_
  simp
  refine Stop.of_d (example_c _ _) ?_
  simp
  have hsm := same_c exP (by decide) exP_ok.bd
  refine Stop.of_d (hsm _ _) ?_
  simp
  try (simp)
  repeat (first | (refine sR ?_; simp) | (refine sC ?_; simp) | (refine sX ?_; simp only [AU, ↓reduceIte]))
  refine sT ?_
  try simp only [AU]
  refine ⟨by simp, sF hbox htok (fun _ h => h) (Nat.le_refl _) ?_⟩
  simp [packA]
end Go.AM
namespace Go.AM
open Go Go.Proofs
theorem fm_sm : ∀ (n : Nat) (c : Cm), c.size < n → c.size ≤ 1000000 → c.Fm → c.Sm
  | 0, c, h, _, _ => absurd h (Nat.not_lt_zero _)
  | n + 1, c, h, hz, hf => .mk (by have := hf.name; omega) (by have := c.kids_len; omega) fun x hx => fm_sm n x (by have := Cm.kid_size hx; omega) (by have := Cm.kid_size hx; omega) (hf.kid x hx)
theorem fault_ok {p : List Pr} {rs : List ByteArray} {asked : Bool} (h : (faultR p rs asked).2 = 0) : PrsOk p := by
  obtain ⟨hv, h20, h1, hpe⟩ := fault_valid h
  have hd := fault_depth hpe
  have hf := valid_fm hpe
  refine ⟨by omega, fun q hq => ?_, fun q hq => fm_sm _ _ (Nat.lt_succ_self _) (by have := (hd q hq).2.1; omega) (hf q hq), fun q hq => by have := (hd q hq).2.1; omega⟩
  have := nameB_size (hd q hq).2.2
  omega
end Go.AM
namespace Go.AM
open Go Go.ChangeShapes
variable {P : Program}
def Rd (w : World) (cs : List Value) (ds : List D) : Prop := cs.length = ds.length ∧ ∀ i (h1 : i < cs.length) (h2 : i < ds.length), RVd w.cell? (fun _ => True) ds[i] cs[i]
theorem Rd.append {w : World} {cs cs' : List Value} {ds ds' : List D} (h : Rd w cs ds) (k : Rd w cs' ds') : Rd w (cs ++ cs') (ds ++ ds') := by
  refine ⟨by simp [h.1, k.1], fun i h1 h2 => ?_⟩
  by_cases hi : i < cs.length
  · rw [List.getElem_append_left hi, List.getElem_append_left (by rw [← h.1]; exact hi)]
    exact h.2 i hi _
  · have hl := h.1
    rw [List.getElem_append_right (by omega), List.getElem_append_right (by omega)]
    have := k.2 (i - cs.length) (by simp at h1; omega) (by have := k.1; simp at h1; omega)
    simpa [hl] using this
theorem Rd.one {w : World} {c : Value} {d : D} (h : RVd w.cell? (fun _ => True) d c) : Rd w [c] [d] := ⟨rfl, fun i h1 h2 => by
  have : i = 0 := by simpa using h1
  subst this
  exact h⟩
def Light {H : Type} (P : Program) (T : TypeId) (d : DataW H) : Prop := (d.weights P T).all (· ≤ reachBytes) = true
structure Rdr (P : Program) (T : TypeId) (α : Type) where
  enc : α → List D
  ok : α → Prop
  len : ∀ x, (enc x).length = P.cellsOf T
  sound : ∀ {H : Type} (e : TypeId × Value → H) (w : World) (base : Nat) (spare : Nat → Bool) (held : Bool) (fuel : Nat) (cs : List Value) (x : DataW H × List MemPlace),
    DataW.trod e P w base spare held fuel T cs = some x → ∃ y, Rd w cs (enc y) ∧ (Light P T x.1 → ok y)
def Rdr.int {T : TypeId} {k : IntKind} (h : P.underlying T = some (.int k)) (hc : P.cellsOf T = 1) : Rdr P T Int where
  enc n := [.raw (.int k n)]
  ok n := (Lit.int k n).wf = true
  len _ := by simp [hc]
  sound e w base spare held fuel cs x hx := by
    cases fuel with
    | zero => simp [DataW.trod] at hx
    | succ n =>
      unfold DataW.trod at hx
      rw [h] at hx
      split at hx <;> simp_all
      rename_i k' n' _
      exact ⟨n', Rd.one (.raw rfl), fun _ => hx.1.2⟩
theorem cells_spec {w : World} {base : Nat} {a : Addr} {n : Nat} {l : List Value} (h : w.cells? base a n = some l) : l.length = n ∧ ∀ i (hi : i < l.length), w.cell? (a.add i) = some l[i] := by
  unfold World.cells? at h
  split at h
  · have h1 : l.length = n := by have := mapM_some_length h; simpa using this
    refine ⟨h1, fun i hi => ?_⟩
    have hin : i < n := by omega
    have := mapM_some_get h i i (by simp [hin])
    rw [this]
    exact List.getElem?_eq_getElem hi
  · cases h
theorem light_slice {H : Type} {T E : TypeId} (h : P.underlying T = some (.slice E)) {elems rest : List (DataW H)} (hl : Light P T (.slice elems rest)) : elems.length * P.bytesOf E ≤ reachBytes ∧ ∀ d ∈ elems, Light P E d := by
  unfold Light at hl ⊢
  simp only [DataW.weights, h, List.all_cons, List.all_append, Bool.and_eq_true, decide_eq_true_eq] at hl
  refine ⟨Nat.le_trans (Nat.mul_le_mul_right _ (Nat.le_add_right _ _)) hl.1, ?_⟩
  have key : ∀ l : List (DataW H), (DataW.weightsAll P E l).all (· ≤ reachBytes) = true → ∀ d ∈ l, (d.weights P E).all (· ≤ reachBytes) = true := by
    intro l
    induction l with
    | nil => intro _ d hd; simp at hd
    | cons x l ih =>
      intro hx d hd
      simp only [DataW.weightsAll, List.all_append, Bool.and_eq_true] at hx
      rcases List.mem_cons.1 hd with rfl | hd
      · exact hx.1
      · exact ih hx.2 d hd
  exact key elems hl.2.1
def Rdr.slice {T E : TypeId} {α : Type} (r : Rdr P E α) (h : P.underlying T = some (.slice E)) (hc : P.cellsOf T = 1) : Rdr P T (List α) where
  enc l := [.sl (P.cellsOf E) (l.map r.enc)]
  ok l := (∀ x ∈ l, r.ok x) ∧ l.length * P.bytesOf E ≤ reachBytes
  len _ := by simp [hc]
  sound e w base spare held fuel cs x hx := by
    rcases DataW.trod_slice h hx with ⟨rfl, rfl⟩ | ⟨a, len, cap, elems, rest, n, rfl, rfl, rfl, hb, hl, hm, hel, hat, _⟩
    · exact ⟨[], Rd.one (.sl (es := []) (fun _ _ => default) (Nat.le_refl _) (by decide) (by simp) (by simp) (by simp) (by simp)), fun _ => ⟨by simp, by simp⟩⟩
    · have key : ∀ i (hi : i < elems.length), ∃ cs y, cs.length = P.cellsOf E ∧ (∀ j (hj : j < cs.length), w.cell? (a.add (i * P.cellsOf E + j)) = some cs[j]) ∧ Rd w cs (r.enc y) ∧ (Light P E elems[i].1 → r.ok y) := by
        intro i hi
        have h1 := hat i (by omega)
        have h2 : elems[i]? = some elems[i] := List.getElem?_eq_getElem hi
        rw [h2, Option.bind_eq_some_iff] at h1
        obtain ⟨cs, hcs, htr⟩ := h1
        obtain ⟨hcl, hcc⟩ := cells_spec hcs
        obtain ⟨y, hy, hok⟩ := r.sound e w base spare held n cs _ htr
        refine ⟨cs, y, hcl, fun j hj => ?_, hy, hok⟩
        rw [← Addr.add_add]
        exact hcc j hj
      have pick : ∀ m, m ≤ elems.length → ∃ ys : List α, ys.length = m ∧ (∀ i (hi : i < ys.length) (hi2 : i < elems.length), ∃ cs, cs.length = P.cellsOf E ∧ (∀ j (hj : j < cs.length), w.cell? (a.add (i * P.cellsOf E + j)) = some cs[j]) ∧ Rd w cs (r.enc ys[i]) ∧ (Light P E elems[i].1 → r.ok ys[i])) := by
        intro m
        induction m with
        | zero => intro _; exact ⟨[], rfl, fun i hi => by simp at hi⟩
        | succ m ih =>
          intro hm'
          obtain ⟨ys, hys, hall⟩ := ih (by omega)
          obtain ⟨cs, y, g1, g2, g3, g4⟩ := key m (by omega)
          refine ⟨ys ++ [y], by simp [hys], fun i hi hi2 => ?_⟩
          by_cases him : i < ys.length
          · rw [List.getElem_append_left him]
            exact hall i him hi2
          · have : i = m := by simp at hi; omega
            subst this
            have e1 : (ys ++ [y])[i] = y := by
              rw [List.getElem_append_right (by omega)]
              simp
            rw [e1]
            exact ⟨cs, g1, g2, g3, g4⟩
      obtain ⟨ys, hys, hall⟩ := pick elems.length (Nat.le_refl _)
      refine ⟨ys, Rd.one ?_, fun hli => ?_⟩
      · have hlen : len = ys.length := by omega
        subst hlen
        have hml : ys.length = (ys.map r.enc).length := by simp
        rw [hml]
        refine .sl (fun i j => (w.cell? (a.add (i * P.cellsOf E + j))).getD default) (by simpa using hl) hm (fun e he => ?_) (fun _ => ⟨a, rfl⟩) (fun a' ha' i j hi hj => ?_) (fun i j hi hj => ?_)
        · obtain ⟨y, _, rfl⟩ := List.mem_map.1 he
          exact r.len y
        · cases ha'
          obtain ⟨cs, g1, g2, _⟩ := hall i (by simpa using hi) (by simp at hi; omega)
          rw [g2 j (by omega)]
          exact ⟨trivial, rfl⟩
        · obtain ⟨cs, g1, g2, g3, _⟩ := hall i (by simpa using hi) (by simp at hi; omega)
          simp only [List.getElem_map] at hj ⊢
          have hjc : j < cs.length := by rw [g3.1]; exact hj
          rw [g2 j hjc]
          exact g3.2 j hjc hj
      · obtain ⟨w1, w2⟩ := light_slice h hli
        refine ⟨fun y hy => ?_, by simpa [hys] using w1⟩
        obtain ⟨i, hi, rfl⟩ := List.getElem_of_mem hy
        obtain ⟨_, _, _, _, h4⟩ := hall i hi (by omega)
        exact h4 (w2 _ (List.mem_map.2 ⟨_, List.getElem_mem _, rfl⟩))
def Rdr.map {T : TypeId} {α β : Type} (r : Rdr P T α) (f : α → β) (enc : β → List D) (ok : β → Prop) (he : ∀ x, enc (f x) = r.enc x) (hok : ∀ x, r.ok x → ok (f x)) (hl : ∀ y, (enc y).length = P.cellsOf T) : Rdr P T β where
  enc := enc
  ok := ok
  len := hl
  sound e w base spare held fuel cs x hx := by
    obtain ⟨y, h1, h2⟩ := r.sound e w base spare held fuel cs x hx
    exact ⟨f y, by rw [he]; exact h1, fun hl => hok y (h2 hl)⟩
def Rdr.sliceN {T E : TypeId} {α : Type} (r : Rdr P E α) (n : Nat) (h : P.underlying T = some (.slice E)) (hc : P.cellsOf T = 1) (hn : P.cellsOf E = n) : Rdr P T (List α) where
  enc l := [.sl n (l.map r.enc)]
  ok l := (∀ x ∈ l, r.ok x) ∧ l.length * P.bytesOf E ≤ reachBytes
  len _ := by simp [hc]
  sound := by
    subst hn
    exact (Rdr.slice r h hc).sound
def G0 : Gh := ⟨fun _ => none, fun _ => none, fun _ => .whole, 0⟩
def m0 : AMem := ⟨fun _ => none, 0, fun _ => false, 0⟩
theorem G0_ps (a : Addr) : G0.ps a := trivial
theorem relM_start (W : World) : RelM G0 m0 W := by
  constructor
  case box => intro k rows b sz h; cases h
  case nobox => intro k _; rfl
  case inj => intro k k' b sz sz' h; cases h
  case nb => intro k _; rfl
  case nt => rfl
  case toks => intro t h; cases h
  case tokb => intro t g h; cases h
  case tinj => intro t t' g h; cases h
  case tnt => intro t x h; cases h
  case fresh => intro b _; rfl
theorem RVd.start {W : World} {d : D} {v : Value} (h : RVd W.cell? (fun _ => True) d v) : RVd W.cell? G0.ps d v := h.mono fun a u _ hc => ⟨G0_ps a, hc⟩
theorem Rdr.agg {T : TypeId} {α : Type} (r : Rdr P T α) {W : World} {base base' : Nat} {sp : Nat → Bool} {held : Bool} {H : Type} {enc : TypeId × Value → H} {v : Value} {d : DataW H} {p : List MemPlace}
    (hs : aggT P T = some true) (hv : Value.okWide P W .any base T v) (h : DataW.Trod enc P W base' sp held T v d p) (hli : Light P T d) : ∃ y, r.ok y ∧ RV G0 W (.agg ((r.enc y).map .d)) v := by
  have hcs : ∃ cs, v = .agg cs := by
    unfold aggT at hs
    unfold Value.okWide at hv
    cases hu : P.underlying T with
    | none => rw [hu] at hs; simp at hs
    | some u =>
      rw [hu] at hs hv
      cases u <;> simp at hs hv <;> exact ⟨_, hv.choose_spec.1⟩
  obtain ⟨cs, rfl⟩ := hcs
  obtain ⟨fuel, h⟩ := h
  obtain ⟨y, ⟨h1, h2⟩, hok⟩ := r.sound enc W base' sp held fuel _ _ h
  refine ⟨y, hok hli, ?_⟩
  simp only [Value.cells] at h1 h2
  have := RV.agg (G := G0) (w := W) (cs := (r.enc y).map .d) (vs := cs.toList) (by simp [h1]) (fun i g1 g2 => by
    simp only [List.getElem_map]
    exact .d (h2 i g2 (by simpa using g1)).start) (fun v hv => by
    obtain ⟨i, hi, rfl⟩ := List.getElem_of_mem hv
    exact (h2 i hi (by omega)).one)
  simpa using this
theorem Rdr.cell {T : TypeId} {α : Type} (r : Rdr P T α) {W : World} {base base' : Nat} {sp : Nat → Bool} {held : Bool} {H : Type} {enc : TypeId × Value → H} {v : Value} {d : DataW H} {p : List MemPlace} (f : α → D)
    (hs : aggT P T = some false) (hf : ∀ y, r.enc y = [f y]) (hv : Value.okWide P W .any base T v) (h : DataW.Trod enc P W base' sp held T v d p) (hli : Light P T d) : ∃ y, r.ok y ∧ RV G0 W (.d (f y)) v := by
  obtain ⟨fuel, h⟩ := h
  obtain ⟨y, ⟨h1, h2⟩, hok⟩ := r.sound enc W base' sp held fuel _ _ h
  refine ⟨y, hok hli, ?_⟩
  rw [hf] at h1
  have hcs : v.cells.toList = [v] := by
    cases v with
    | agg cs =>
      exfalso
      unfold aggT at hs
      unfold Value.okWide Cell.okWide Cell.ok at hv
      cases hu : P.underlying T with
      | none => rw [hu] at hs; simp at hs
      | some u =>
        rw [hu] at hs hv
        cases u <;> simp_all
    | _ => rfl
  have := h2 0 (by rw [h1]; simp) (by rw [hf]; simp)
  simp only [hf, List.getElem_cons_zero] at this
  have e : v.cells.toList[0]'(by rw [h1]; simp) = v := by simp [hcs]
  rw [e] at this
  exact .d this.start
theorem light_arg {H : Type} {ts : List TypeId} {ds : List (DataW H)} (hz : (DataW.weightsEach P ts ds).all (· ≤ reachBytes) = true) {j : Nat} {T : TypeId} {d : DataW H} (ht : ts[j]? = some T) (hd : ds[j]? = some d) : Light P T d :=
  List.all_eq_true.2 fun x hx => List.all_eq_true.1 hz x (DataW.weights_mem_each ht hd x hx)
theorem arg_cell {ps : Array TypeId} {args : Array Value} {W : World} {base base' : Nat} {sp : Nat → Bool} {held : Bool} {H : Type} {enc : TypeId × Value → H} (hval : ∀ (j : Nat) t v, ps[j]? = some t → args[j]? = some v → Value.okWide P W .any base t v)
    (j : Nat) (T : TypeId) (v : Value) (hp : ps[j]? = some T) (ha : args[j]? = some v) {α : Type} (r : Rdr P T α) (f : α → D) {d : DataW H} {p : List MemPlace} (hs : aggT P T = some false) (hf : ∀ y, r.enc y = [f y]) (h : DataW.Trod enc P W base' sp held T v d p) (hli : Light P T d) :
    ∃ y, r.ok y ∧ RV G0 W (.d (f y)) v := r.cell f hs hf (hval j T v hp ha) h hli
theorem le_old {W W' : World} {G' : Gh} (h : Le G0 W G' W') (b : Nat) (hb : b < W.heap.size) : W'.heap[b]? = W.heap[b]? := (h.whole b hb rfl).2
theorem le_kept {W W' : World} {G' : Gh} (h : Le G0 W G' W') (may : MemPlace → Prop) : W.keptBut W' may := by
  refine ⟨h.os, h.output, fun i hi => ?_⟩
  rw [le_old h i hi]
  split
  · rename_i c t fr c' t' fr' e1 e2
    rw [e1] at e2
    cases e2
    exact ⟨rfl, rfl, rfl, fun _ _ => rfl⟩
  · rename_i e1 e2
    rw [e1] at e2
    cases e2
    exact .inr ⟨rfl, rfl⟩
  · rfl
theorem le_same {W W' : World} {G' : Gh} (h : Le G0 W G' W') {p : MemPlace} (hp : p.block < W.heap.size) : W.sameAt W' p := by
  cases p with
  | cell b off => exact World.cell?_of_block (w := W) (a := ⟨b, off, none⟩) (le_old h b hp)
  | map b => exact le_old h b hp
theorem trodAll_stays {H : Type} {enc : TypeId × Value → H} {W W' : World} {T : TypeId → Prop} {sp' : Nat → Bool} (K : Kids P T) (hsz : ∀ {t e : TypeId}, T t → P.underlying t = some (.slice e) → 0 < P.cellsOf e) :
    ∀ {ts : List TypeId} {vs : List Value} {ds : List (DataW H)} {ps : List MemPlace}, (∀ t ∈ ts, T t) → DataW.TrodAll enc P W 0 (fun _ => true) true ts vs ds ps → (∀ p ∈ ps, W.sameAt W' p) → (∀ p ∈ ps, sp' p.block = true) →
    DataW.TrodAll enc P W' 0 sp' true ts vs ds ps
  | [], [], [], _, _, h, _, _ => h
  | t :: ts, v :: vs, d :: ds, _, hT, ⟨p, q, ⟨n, hn⟩, h2, e⟩, h3, h4 => by
    subst e
    exact ⟨p, q, ⟨n, DataW.trod_stays K hsz (fun h => by cases h) (hT t (by simp)) hn (fun x hx => h3 x (by simp [hx])) (fun x hx => h4 x (by simp [hx]))⟩,
      trodAll_stays K hsz (fun t ht => hT t (by simp [ht])) h2 (fun x hx => h3 x (by simp [hx])) (fun x hx => h4 x (by simp [hx])), rfl⟩
end Go.AM
namespace Go.AM
open Go Go.ChangeShapes
structure RdF (P : Program) (T : TypeId) {α : Type} (en : α → List D) (ok : α → Prop) (n : Nat) : Prop where
  sound : ∀ {H : Type} (e : TypeId × Value → H) (w : World) (base : Nat) (spare : Nat → Bool) (held : Bool) (cs : List Value) (x : DataW H × List MemPlace),
    DataW.trod e P w base spare held n T cs = some x → ∃ y, Rd w cs (en y) ∧ (Light P T x.1 → ok y)
theorem Rdr.f {P : Program} {T : TypeId} {α : Type} (r : Rdr P T α) (n : Nat) : RdF P T r.enc r.ok n := ⟨fun e w base spare held cs x hx => r.sound e w base spare held n cs x hx⟩
theorem RdF.zero {P : Program} {T : TypeId} {α : Type} {en : α → List D} {ok : α → Prop} : RdF P T en ok 0 := ⟨fun e w base spare held cs x hx => by simp [DataW.trod] at hx⟩
theorem RdF.slice {P : Program} {T E : TypeId} {α : Type} {en : α → List D} {ok : α → Prop} {n : Nat} (r : RdF P E en ok n) (k : Nat) (hk : P.cellsOf E = k) (hlen : ∀ x, (en x).length = k) (h : P.underlying T = some (.slice E)) :
    RdF P T (fun l : List α => [.sl k (l.map en)]) (fun l => (∀ x ∈ l, ok x) ∧ l.length * P.bytesOf E ≤ reachBytes) (n + 1) := by
  subst hk
  constructor
  intro H e w base spare held cs x hx
  rcases DataW.trod_slice h hx with ⟨rfl, rfl⟩ | ⟨a, len, cap, elems, rest, n', hn', rfl, rfl, hb, hl, hm, hel, hat, _⟩
  · exact ⟨[], Rd.one (.sl (es := []) (fun _ _ => default) (Nat.le_refl _) (by decide) (by simp) (by simp) (by simp) (by simp)), fun _ => ⟨by simp, by simp⟩⟩
  · obtain rfl : n' = n := by omega
    have key : ∀ i (hi : i < elems.length), ∃ cs y, cs.length = P.cellsOf E ∧ (∀ j (hj : j < cs.length), w.cell? (a.add (i * P.cellsOf E + j)) = some cs[j]) ∧ Rd w cs (en y) ∧ (Light P E elems[i].1 → ok y) := by
      intro i hi
      have h1 := hat i (by omega)
      have h2 : elems[i]? = some elems[i] := List.getElem?_eq_getElem hi
      rw [h2, Option.bind_eq_some_iff] at h1
      obtain ⟨cs, hcs, htr⟩ := h1
      obtain ⟨hcl, hcc⟩ := cells_spec hcs
      obtain ⟨y, hy, hok⟩ := r.sound e w base spare held cs _ htr
      refine ⟨cs, y, hcl, fun j hj => ?_, hy, hok⟩
      rw [← Addr.add_add]
      exact hcc j hj
    have pick : ∀ m, m ≤ elems.length → ∃ ys : List α, ys.length = m ∧ (∀ i (hi : i < ys.length) (hi2 : i < elems.length), ∃ cs, cs.length = P.cellsOf E ∧ (∀ j (hj : j < cs.length), w.cell? (a.add (i * P.cellsOf E + j)) = some cs[j]) ∧ Rd w cs (en ys[i]) ∧ (Light P E elems[i].1 → ok ys[i])) := by
      intro m
      induction m with
      | zero => intro _; exact ⟨[], rfl, fun i hi => by simp at hi⟩
      | succ m ih =>
        intro hm'
        obtain ⟨ys, hys, hall⟩ := ih (by omega)
        obtain ⟨cs, y, g1, g2, g3, g4⟩ := key m (by omega)
        refine ⟨ys ++ [y], by simp [hys], fun i hi hi2 => ?_⟩
        by_cases him : i < ys.length
        · rw [List.getElem_append_left him]
          exact hall i him hi2
        · have : i = m := by simp at hi; omega
          subst this
          have e1 : (ys ++ [y])[i] = y := by
            rw [List.getElem_append_right (by omega)]
            simp
          rw [e1]
          exact ⟨cs, g1, g2, g3, g4⟩
    obtain ⟨ys, hys, hall⟩ := pick elems.length (Nat.le_refl _)
    refine ⟨ys, Rd.one ?_, fun hli => ?_⟩
    · have hlen' : len = ys.length := by omega
      subst hlen'
      have hml : ys.length = (ys.map en).length := by simp
      rw [hml]
      refine .sl (fun i j => (w.cell? (a.add (i * P.cellsOf E + j))).getD default) (by simpa using hl) hm (fun e he => ?_) (fun _ => ⟨a, rfl⟩) (fun a' ha' i j hi hj => ?_) (fun i j hi hj => ?_)
      · obtain ⟨y, _, rfl⟩ := List.mem_map.1 he
        exact hlen y
      · cases ha'
        obtain ⟨cs, g1, g2, _⟩ := hall i (by simpa using hi) (by simp at hi; omega)
        rw [g2 j (by omega)]
        exact ⟨trivial, rfl⟩
      · obtain ⟨cs, g1, g2, g3, _⟩ := hall i (by simpa using hi) (by simp at hi; omega)
        simp only [List.getElem_map] at hj ⊢
        have hjc : j < cs.length := by rw [g3.1]; exact hj
        rw [g2 j hjc]
        exact g3.2 j hjc hj
    · obtain ⟨w1, w2⟩ := light_slice h hli
      refine ⟨fun y hy => ?_, by simpa [hys] using w1⟩
      obtain ⟨i, hi, rfl⟩ := List.getElem_of_mem hy
      obtain ⟨_, _, _, _, h4⟩ := hall i hi (by omega)
      exact h4 (w2 _ (List.mem_map.2 ⟨_, List.getElem_mem _, rfl⟩))
end Go.AM
namespace Go.AM
open Go Go.Proofs Go.ChangeShapes
theorem own0 : ownKnob Tryz.prog.godebug = none := by kernel_rfl
theorem laidOut0 : laidOutB Tryz.prog = true := by kernel_rfl
theorem mapsRowed0 : mapsRowed Tryz.prog = true := by kernel_rfl
theorem slices0 : ((List.range Tryz.prog.types.size).all fun t => match Tryz.prog.underlying t with | some (.slice e) => decide (0 < Tryz.prog.cellsOf e) | _ => true) = true := by kernel_rfl
def Rdr.str {P : Program} {T : TypeId} (h : P.underlying T = some .string) (hc : P.cellsOf T = 1) : Rdr P T ByteArray where
  enc n := [.raw (.string n)]
  ok n := n.size ≤ reachBytes
  len _ := by simp [hc]
  sound e w base spare held fuel cs x hx := by
    cases fuel with
    | zero => simp [DataW.trod] at hx
    | succ n =>
      unfold DataW.trod at hx
      rw [h] at hx
      split at hx <;> simp_all
      refine ⟨_, Rd.one (.raw rfl), fun hli => ?_⟩
      obtain ⟨_, rfl⟩ := hx
      have := hli
      simp [Light, DataW.weights] at this
      exact this
def rdInt : Rdr Tryz.prog 3 Int := Rdr.int (k := .i64) Tryz.underlying3 (by kernel_rfl)
def rdU8 : Rdr Tryz.prog 5 Int := Rdr.int (k := .u8) Tryz.underlying5 (by kernel_rfl)
def rdU8s : Rdr Tryz.prog 60 (List Int) := rdU8.sliceN 1 Tryz.underlying60 (by kernel_rfl) (by kernel_rfl)
def rdU8ss : Rdr Tryz.prog 49 (List (List Int)) := rdU8s.sliceN 1 Tryz.underlying49 (by kernel_rfl) (by kernel_rfl)
theorem rch : reachBytes = 140737488351232 := rfl
end Go.AM
namespace Go.AM
open Go Go.Proofs
end Go.AM
namespace Go.AM
open Go Go.Proofs
end Go.AM
namespace Go.AM
open Go Go.Proofs
end Go.AM
namespace Go.AM
open Go Go.Proofs
end Go.AM
namespace Go.AM
open Go Go.Proofs
abbrev u8d (n : Int) : D := .raw (.int .u8 n)
abbrev byE (e : Nat) (l : List Int) : D := .sl e (l.map fun n => [u8d n])
def B8s (l : List Int) : Prop := ∀ c ∈ l, 0 ≤ c ∧ c < 256
abbrev mkRow (e : Nat) (cs : List Int) (rs : List ByteArray) (pr : Nat) : List AV := [.d (byE e cs), .d (strs rs), I pr]
theorem hd46_rng {cs : List Int} (h : B8s cs) : hd46 cs < 256 := by
  cases cs with
  | nil => decide
  | cons c r =>
    have := h c (by simp)
    show c.toNat < 256
    omega
theorem B8s.tail {cs : List Int} (h : B8s cs) : B8s cs.tail := fun c hc => h c (List.mem_of_mem_tail hc)
theorem next46_c (e : Nat) (cs : List Int) (he : cs = [] ∨ e = 1) (hc : B8s cs) (hl : cs.length ≤ 200000000000000) (rs : List ByteArray) (pr ks : Nat) (box : Nat → Option (List (List AV))) (hk : box ks = some [mkRow e cs rs pr]) (nb : Nat) (tok : Nat → Bool) (nt : Nat) :
    ACalls Tryz.prog 96 [.ptr ks 0 0] ⟨box, nb, tok, nt⟩ (QRd (I (hd46 cs)) (mkRow e cs.tail rs pr) ks box nb tok nt) := by
  cases cs with
  | nil =>
    refine sB Tryz.func96 Tryz.ntmps96 ?_
    intro hbox htok
    simp only at hbox htok
    apply AL.start
    have kn := key_lt hbox hk
    try (simp [lb_out kn, hk, upd_lb_out kn, upd_same])
    repeat (first | (refine sR ?_; simp [lb_out kn, hk, upd_lb_out kn, upd_same]) | (refine sC ?_; simp [lb_out kn, hk, upd_lb_out kn, upd_same]) | (refine sX ?_; simp only [AU, ↓reduceIte]))
    refine sT ?_
    try simp only [AU]
    refine ⟨by simp, (Fin.gen (av := I 0) (tok' := tok) (nt' := nt) (by simp [resAs, resA, lk]; rfl) hbox (Nat.le_refl _) (Nat.le_refl _) (fun t ht => ⟨ht, .inl rfl⟩) (fun k rows _ h => .inl h) (by simp [packA])).mono fun v m hq => ?_⟩
    exact ⟨hq.1, hq.2.trans (congrArg (fun b => (⟨b, nb, tok, nt⟩ : AMem)) (upd_keep hk).symm)⟩
  | cons c r =>
    have e1 : e = 1 := he.resolve_left (by simp)
    subst e1
    obtain ⟨c0, c1⟩ := hc c (by simp)
    have hw : IntKind.i64.wrap c = c := wrap_in (by omega) (by omega)
    have hh : ((hd46 (c :: r) : Nat) : Int) = c := by show ((c.toNat : Nat) : Int) = c; omega
    have hln : ((r.length : Int) + 1 == 0) = false := by rw [beq_eq_false_iff_ne]; omega
    have hln2 : ¬ ((r.length : Int) + 1 = 0) := by omega
    refine sB Tryz.func96 Tryz.ntmps96 ?_
    intro hbox htok
    simp only at hbox htok
    apply AL.start
    have kn := key_lt hbox hk
    try (simp [lb_out kn, hk, upd_lb_out kn, upd_same, hw, hln, hln2])
    repeat (first | (refine sR ?_; simp [lb_out kn, hk, upd_lb_out kn, upd_same, hw, hln, hln2]) | (refine sC ?_; simp [lb_out kn, hk, upd_lb_out kn, upd_same, hw, hln, hln2]) | (refine sX ?_; simp only [AU, ↓reduceIte]))
    refine sT ?_
    try simp only [AU]
    refine ⟨by simp, (Fin.gen (av := I c) (tok' := tok) (nt' := nt) (by simp [resAs, resA, lk]; rfl) (by rw [← upd_lb_out kn, hbox]) (Nat.le_refl _) (Nat.le_refl _) (fun t ht => ⟨ht, .inl rfl⟩) (outG (by simp)) (by simp [packA])).mono fun v m hq => ?_⟩
    have e2 : List.take r.length (r.map fun n => [u8d n]) = r.map fun n => [u8d n] := List.take_of_length_le (by simp)
    rw [e2] at hq
    exact ⟨by rw [hh]; exact hq.1, hq.2⟩
end Go.AM
namespace Go.AM
open Go Go.Proofs
def stMk1 (cs : List Int) (rs : List ByteArray) (pr e lev : Nat) (wi : Bool) (n : Nat) (k : Int) (ks nb : Nat) (box : Nat → Option (List (List AV))) (tok : Nat → Bool) (nt : Nat) : AState :=
  ⟨tl [(7, I n), (8, I k), (6, .ptr (nb + 6) 0 0), (0, .ptr ks 0 0), (1, I lev), (2, B wi)], lb nb (upd box ks (some [mkRow e cs.tail rs pr])) [(6, [[I 0, Sb ⟨#[]⟩, I 0, nilS]])], tok, nt⟩
def stMk2 (cs : List Int) (rs : List ByteArray) (pr e lev : Nat) (wi : Bool) (n : Nat) (k : Int) (nm : ByteArray) (nu : Int) (ks nb : Nat) (box : Nat → Option (List (List AV))) (tok : Nat → Bool) (nt : Nat) : AState :=
  ⟨tl [(7, I n), (8, I k), (9, .ptr (nb + 9) 0 0), (6, .ptr (nb + 6) 0 0), (0, .ptr ks 0 0), (1, I lev), (2, B wi)], lb nb (upd box ks (some [mkRow e cs.tail rs pr])) [(9, [[I k, Sb nm, I nu, nilS]]), (6, [[I 0, Sb ⟨#[]⟩, I 0, nilS]])], tok, nt⟩
structure AccMk where
  i : Nat
  cs : List Int
  l : List Cm
  own : Own
  tok : Nat → Bool
  nt : Nat
structure MkInv (F : List Int → Cm × List Int) (ct : Nat) (R : List Cm × List Int) (e : Nat) (mtok : Nat → Bool) (nt0 : Nat) (x : AccMk) : Prop where
  i : x.i ≤ ct
  q : mkF F (ct - x.i) x.cs x.l = R
  he : x.cs = [] ∨ e = 1
  hc : B8s x.cs
  hl : x.cs.length ≤ 200000000000000
  ln : x.l.length = x.i
  k : TK mtok nt0 x.tok x.nt [x.own]
theorem MkInv.of {F : List Int → Cm × List Int} {ct : Nat} {R : List Cm × List Int} {e : Nat} {mtok : Nat → Bool} {nt0 : Nat} {i : Nat} {cs : List Int} {l : List Cm} {own : Own} {tok : Nat → Bool} {nt : Nat} (h1 : i ≤ ct) (h2 : mkF F (ct - i) cs l = R) (h3 : cs = [] ∨ e = 1) (h4 : B8s cs) (h5 : cs.length ≤ 200000000000000) (h6 : l.length = i) (h7 : TK mtok nt0 tok nt [own]) :
    MkInv F ct R e mtok nt0 ⟨i, cs, l, own, tok, nt⟩ := ⟨h1, h2, h3, h4, h5, h6, h7⟩
def stMk3 (rs : List ByteArray) (pr e lev : Nat) (wi : Bool) (n : Nat) (k : Int) (nm : ByteArray) (nu : Int) (ct ks nb : Nat) (box : Nat → Option (List (List AV))) (x : AccMk) : AState :=
  ⟨tl [(10, I ct), (11, I x.i), (7, I n), (8, I k), (9, .ptr (nb + 9) 0 0), (6, .ptr (nb + 6) 0 0), (0, .ptr ks 0 0), (1, I lev), (2, B wi)], lb nb (upd box ks (some [mkRow e x.cs rs pr])) [(9, [[I k, Sb nm, I nu, .osl 4 (x.l.map Cm.cells) x.own]]), (6, [[I 0, Sb ⟨#[]⟩, I 0, nilS]])], x.tok, x.nt⟩
theorem mk46_rest (rs : List ByteArray) (pr : Nat) : ∀ (lev : Nat) (wi : Bool) (cs : List Int), (mk46 rs pr lev wi cs).2.length ≤ cs.length ∧ (B8s cs → B8s (mk46 rs pr lev wi cs).2) ∧ (cs = [] → (mk46 rs pr lev wi cs).2 = [])
  | 0, wi, cs => ⟨Nat.le_refl _, id, id⟩
  | lev + 1, wi, cs => by
    have key : ∀ (sq : Bool) (n : Nat) (cs : List Int) (acc : List Cm), (mkF (mk46 rs pr lev sq) n cs acc).2.length ≤ cs.length ∧ (B8s cs → B8s (mkF (mk46 rs pr lev sq) n cs acc).2) ∧ (cs = [] → (mkF (mk46 rs pr lev sq) n cs acc).2 = []) := by
      intro sq n
      induction n with
      | zero => intro cs acc; rw [mkF]; exact ⟨Nat.le_refl _, id, id⟩
      | succ n ih =>
        intro cs acc
        obtain ⟨a1, a2, a3⟩ := mk46_rest rs pr lev sq cs
        obtain ⟨b1, b2, b3⟩ := ih (mk46 rs pr lev sq cs).2 (acc ++ [(mk46 rs pr lev sq cs).1])
        rw [mkF]
        exact ⟨Nat.le_trans b1 a1, fun h => b2 (a2 h), fun h => b3 (a3 h)⟩
    rw [mk46_succ rs pr lev wi cs rfl rfl]
    obtain ⟨k1, k2, k3⟩ := key (kdM rs pr (lev + 1) wi (hd46 cs) == 2) (ctM (kdM rs pr (lev + 1) wi (hd46 cs)) (hd46 cs)) cs.tail []
    refine ⟨?_, fun h => k2 h.tail, fun h => k3 (by rw [h]; rfl)⟩
    have : cs.tail.length ≤ cs.length := by rw [List.length_tail]; omega
    simp only
    omega
theorem kd46_at (n : Nat) : kd14[n % 14]? = some (kd46 n) := by
  have h : n % 14 < kd14.length := Nat.mod_lt _ (by decide)
  rw [kd46, List.getD_eq_getElem?_getD, List.getElem?_eq_getElem h]
  rfl
set_option maxHeartbeats 4000000 in
set_option maxRecDepth 100000 in
theorem make46_c (rs : List ByteArray) (hrs : rs.length ≤ 20) (pr : Nat) (hpr : pr ≤ 9) : ∀ (N lev : Nat), lev < N → lev ≤ 10 → ∀ (wi : Bool) (e : Nat) (cs : List Int), (cs = [] ∨ e = 1) → B8s cs → cs.length ≤ 200000000000000 →
    ∀ (ks : Nat) (box : Nat → Option (List (List AV))), box ks = some [mkRow e cs rs pr] → ∀ (nb : Nat) (tok : Nat → Bool) (nt : Nat),
    ACalls Tryz.prog 63 [.ptr ks 0 0, I ((lev + 1 : Nat) : Int), B wi] ⟨box, nb, tok, nt⟩ (QRd (mk46 rs pr (lev + 1) wi cs).1.av (mkRow e (mk46 rs pr (lev + 1) wi cs).2 rs pr) ks box nb tok nt) := by
  intro N
  induction N with
  | zero => intro lev h; exact absurd h (Nat.not_lt_zero _)
  | succ N IH =>
  intro lev hlN h10 wi e cs he hc hl ks box hk nb tok nt
  obtain ⟨L, hLe⟩ : ∃ L, L = lev + 1 := ⟨_, rfl⟩
  rw [← hLe]
  have hnx := next46_c e cs he hc hl rs pr ks
  have hn := hd46_rng hc
  obtain ⟨n, hne⟩ : ∃ n, n = hd46 cs := ⟨_, rfl⟩
  rw [← hne] at hnx hn
  obtain ⟨m14, hme⟩ : ∃ m, m = n % 14 := ⟨_, rfl⟩
  obtain ⟨d, hde⟩ : ∃ d, d = n / 14 := ⟨_, rfl⟩
  have t14 : (n : Int).tmod 14 = (m14 : Int) := by rw [Int.tmod_eq_emod_of_nonneg (by omega)]; omega
  have d14 : (n : Int).tdiv 14 = (d : Int) := by rw [Int.tdiv_eq_ediv_of_nonneg (by omega)]; omega
  have hm14 : (m14 : Int) < 14 := by omega
  have hm14' : m14 < 14 := by omega
  have hka := kd46_at n
  obtain ⟨k, hK0⟩ : ∃ k, kdM rs pr L wi n = k := ⟨_, rfl⟩
  have hkg := kdM_rng rs pr L wi n
  rw [hK0] at hkg
  have hK := hK0
  unfold kdM at hK
  rw [← hme] at hka
  have hkr := kd46_rng n
  generalize kd46 n = k0 at *
  have hkb : ([[D.raw (.int .i64 1)], [D.raw (.int .i64 1)], [D.raw (.int .i64 2)], [D.raw (.int .i64 2)], [D.raw (.int .i64 3)], [D.raw (.int .i64 4)], [D.raw (.int .i64 5)], [D.raw (.int .i64 6)], [D.raw (.int .i64 7)], [D.raw (.int .i64 8)], [D.raw (.int .i64 9)], [D.raw (.int .i64 10)], [D.raw (.int .i64 10)], [D.raw (.int .i64 1)]] : List (List D))[m14]? = some [.raw (.int .i64 k0)] := by
    have h := congrArg (Option.map fun k => [D.raw (.int .i64 k)]) hka
    rw [← List.getElem?_map] at h
    exact h
  obtain ⟨_, hkc⟩ := List.getElem?_eq_some_iff.1 hkb
  refine sB Tryz.func63 Tryz.ntmps63 ?_
  intro hbox htok
  simp only at hbox htok
  apply AL.start
  have kn := key_lt hbox hk
  try (simp [lb_out kn, hk])
  repeat (first | (refine sR ?_; simp [lb_out kn, hk]) | (refine sC ?_; simp [lb_out kn, hk]) | (refine sX ?_; simp only [AU, ↓reduceIte]))
  refine Stop.of_a (hnx _ (by simp only; rw [lb_out kn]; exact hk) _ _ _) ?_
  rintro v m' ⟨rfl, rfl⟩
  simp [upd_lb_out kn]
  refine sR ?_
  simp [upd_lb_out kn, t14, hm14, hm14', hkc]
  refine ⟨rfl, ?_⟩
  refine sN ?_
  refine AL.cutP (l := [_, _]) (stMk1 cs rs pr e L wi n k ks nb box tok nt) True ?_ fun _ => ?_
  · have hk10 : k0 = 1 ∨ k0 = 10 ∨ k0 = 2 ∨ k0 = 3 ∨ k0 = 4 ∨ k0 = 5 ∨ k0 = 6 ∨ k0 = 7 ∨ k0 = 8 ∨ k0 = 9 := by omega
    clear hka hkb hkc
    have hA' : ((L : Int) ≤ 1) = (L ≤ 1) := propext (by omega)
    have hFb : ((pr : Int) == 0) = decide (pr = 0) := by rw [Bool.eq_iff_iff]; simp
    rcases hk10 with rfl | rfl | hrest
    · by_cases hH : rs.length = 0
      · by_cases hA : L ≤ 1
        · cases wi
          · simp [hH, hA] at hK
            subst hK
            try (simp [lb_out kn, upd_same, hH, hA, hA', hFb])
            repeat (first | (refine sR ?_; simp [lb_out kn, upd_same, hH, hA, hA', hFb]) | (refine sC ?_; simp [lb_out kn, upd_same, hH, hA, hA', hFb]) | (refine sX ?_; simp only [AU, ↓reduceIte]))
            refine sE ?_
            exact Weaks.mk' (Nat.le_refl _) (by simp [ToL, lk]; exact to_ptr (by rw [lb_out kn, upd_same]; simp)) (by simp [BoxL, lk]) (outG (by simp))
          · simp [hH, hA] at hK
            subst hK
            try (simp [lb_out kn, upd_same, hH, hA, hA', hFb])
            repeat (first | (refine sR ?_; simp [lb_out kn, upd_same, hH, hA, hA', hFb]) | (refine sC ?_; simp [lb_out kn, upd_same, hH, hA, hA', hFb]) | (refine sX ?_; simp only [AU, ↓reduceIte]))
            refine sE ?_
            exact Weaks.mk' (Nat.le_refl _) (by simp [ToL, lk]; exact to_ptr (by rw [lb_out kn, upd_same]; simp)) (by simp [BoxL, lk]) (outG (by simp))
        · cases wi
          · simp [hH, hA] at hK
            subst hK
            try (simp [lb_out kn, upd_same, hH, hA, hA', hFb])
            repeat (first | (refine sR ?_; simp [lb_out kn, upd_same, hH, hA, hA', hFb]) | (refine sC ?_; simp [lb_out kn, upd_same, hH, hA, hA', hFb]) | (refine sX ?_; simp only [AU, ↓reduceIte]))
            refine sE ?_
            exact Weaks.mk' (Nat.le_refl _) (by simp [ToL, lk]; exact to_ptr (by rw [lb_out kn, upd_same]; simp)) (by simp [BoxL, lk]) (outG (by simp))
          · simp [hH, hA] at hK
            subst hK
            try (simp [lb_out kn, upd_same, hH, hA, hA', hFb])
            repeat (first | (refine sR ?_; simp [lb_out kn, upd_same, hH, hA, hA', hFb]) | (refine sC ?_; simp [lb_out kn, upd_same, hH, hA, hA', hFb]) | (refine sX ?_; simp only [AU, ↓reduceIte]))
            refine sE ?_
            exact Weaks.mk' (Nat.le_refl _) (by simp [ToL, lk]; exact to_ptr (by rw [lb_out kn, upd_same]; simp)) (by simp [BoxL, lk]) (outG (by simp))
      · by_cases hA : L ≤ 1
        · cases wi
          · simp [hH, hA] at hK
            subst hK
            try (simp [lb_out kn, upd_same, hH, hA, hA', hFb])
            repeat (first | (refine sR ?_; simp [lb_out kn, upd_same, hH, hA, hA', hFb]) | (refine sC ?_; simp [lb_out kn, upd_same, hH, hA, hA', hFb]) | (refine sX ?_; simp only [AU, ↓reduceIte]))
            refine sE ?_
            exact Weaks.mk' (Nat.le_refl _) (by simp [ToL, lk]; exact to_ptr (by rw [lb_out kn, upd_same]; simp)) (by simp [BoxL, lk]) (outG (by simp))
          · simp [hH, hA] at hK
            subst hK
            try (simp [lb_out kn, upd_same, hH, hA, hA', hFb])
            repeat (first | (refine sR ?_; simp [lb_out kn, upd_same, hH, hA, hA', hFb]) | (refine sC ?_; simp [lb_out kn, upd_same, hH, hA, hA', hFb]) | (refine sX ?_; simp only [AU, ↓reduceIte]))
            refine sE ?_
            exact Weaks.mk' (Nat.le_refl _) (by simp [ToL, lk]; exact to_ptr (by rw [lb_out kn, upd_same]; simp)) (by simp [BoxL, lk]) (outG (by simp))
        · cases wi
          · simp [hH, hA] at hK
            subst hK
            try (simp [lb_out kn, upd_same, hH, hA, hA', hFb])
            repeat (first | (refine sR ?_; simp [lb_out kn, upd_same, hH, hA, hA', hFb]) | (refine sC ?_; simp [lb_out kn, upd_same, hH, hA, hA', hFb]) | (refine sX ?_; simp only [AU, ↓reduceIte]))
            refine sE ?_
            exact Weaks.mk' (Nat.le_refl _) (by simp [ToL, lk]; exact to_ptr (by rw [lb_out kn, upd_same]; simp)) (by simp [BoxL, lk]) (outG (by simp))
          · simp [hH, hA] at hK
            subst hK
            try (simp [lb_out kn, upd_same, hH, hA, hA', hFb])
            repeat (first | (refine sR ?_; simp [lb_out kn, upd_same, hH, hA, hA', hFb]) | (refine sC ?_; simp [lb_out kn, upd_same, hH, hA, hA', hFb]) | (refine sX ?_; simp only [AU, ↓reduceIte]))
            refine sE ?_
            exact Weaks.mk' (Nat.le_refl _) (by simp [ToL, lk]; exact to_ptr (by rw [lb_out kn, upd_same]; simp)) (by simp [BoxL, lk]) (outG (by simp))
    · by_cases hF : pr = 0
      · by_cases hA : L ≤ 1
        · cases wi
          · simp [hF, hA] at hK
            subst hK
            try (simp [lb_out kn, upd_same, hF, hA, hA', hFb])
            repeat (first | (refine sR ?_; simp [lb_out kn, upd_same, hF, hA, hA', hFb]) | (refine sC ?_; simp [lb_out kn, upd_same, hF, hA, hA', hFb]) | (refine sX ?_; simp only [AU, ↓reduceIte]))
            refine sE ?_
            exact Weaks.mk' (Nat.le_refl _) (by simp [ToL, lk]; exact to_ptr (by rw [lb_out kn, upd_same]; simp)) (by simp [BoxL, lk]) (outG (by simp))
          · simp [hF, hA] at hK
            subst hK
            try (simp [lb_out kn, upd_same, hF, hA, hA', hFb])
            repeat (first | (refine sR ?_; simp [lb_out kn, upd_same, hF, hA, hA', hFb]) | (refine sC ?_; simp [lb_out kn, upd_same, hF, hA, hA', hFb]) | (refine sX ?_; simp only [AU, ↓reduceIte]))
            refine sE ?_
            exact Weaks.mk' (Nat.le_refl _) (by simp [ToL, lk]; exact to_ptr (by rw [lb_out kn, upd_same]; simp)) (by simp [BoxL, lk]) (outG (by simp))
        · cases wi
          · simp [hF, hA] at hK
            subst hK
            try (simp [lb_out kn, upd_same, hF, hA, hA', hFb])
            repeat (first | (refine sR ?_; simp [lb_out kn, upd_same, hF, hA, hA', hFb]) | (refine sC ?_; simp [lb_out kn, upd_same, hF, hA, hA', hFb]) | (refine sX ?_; simp only [AU, ↓reduceIte]))
            refine sE ?_
            exact Weaks.mk' (Nat.le_refl _) (by simp [ToL, lk]; exact to_ptr (by rw [lb_out kn, upd_same]; simp)) (by simp [BoxL, lk]) (outG (by simp))
          · simp [hF, hA] at hK
            subst hK
            try (simp [lb_out kn, upd_same, hF, hA, hA', hFb])
            repeat (first | (refine sR ?_; simp [lb_out kn, upd_same, hF, hA, hA', hFb]) | (refine sC ?_; simp [lb_out kn, upd_same, hF, hA, hA', hFb]) | (refine sX ?_; simp only [AU, ↓reduceIte]))
            refine sE ?_
            exact Weaks.mk' (Nat.le_refl _) (by simp [ToL, lk]; exact to_ptr (by rw [lb_out kn, upd_same]; simp)) (by simp [BoxL, lk]) (outG (by simp))
      · by_cases hA : L ≤ 1
        · cases wi
          · simp [hF, hA] at hK
            subst hK
            try (simp [lb_out kn, upd_same, hF, hA, hA', hFb])
            repeat (first | (refine sR ?_; simp [lb_out kn, upd_same, hF, hA, hA', hFb]) | (refine sC ?_; simp [lb_out kn, upd_same, hF, hA, hA', hFb]) | (refine sX ?_; simp only [AU, ↓reduceIte]))
            refine sE ?_
            exact Weaks.mk' (Nat.le_refl _) (by simp [ToL, lk]; exact to_ptr (by rw [lb_out kn, upd_same]; simp)) (by simp [BoxL, lk]) (outG (by simp))
          · simp [hF, hA] at hK
            subst hK
            try (simp [lb_out kn, upd_same, hF, hA, hA', hFb])
            repeat (first | (refine sR ?_; simp [lb_out kn, upd_same, hF, hA, hA', hFb]) | (refine sC ?_; simp [lb_out kn, upd_same, hF, hA, hA', hFb]) | (refine sX ?_; simp only [AU, ↓reduceIte]))
            refine sE ?_
            exact Weaks.mk' (Nat.le_refl _) (by simp [ToL, lk]; exact to_ptr (by rw [lb_out kn, upd_same]; simp)) (by simp [BoxL, lk]) (outG (by simp))
        · cases wi
          · simp [hF, hA] at hK
            subst hK
            try (simp [lb_out kn, upd_same, hF, hA, hA', hFb])
            repeat (first | (refine sR ?_; simp [lb_out kn, upd_same, hF, hA, hA', hFb]) | (refine sC ?_; simp [lb_out kn, upd_same, hF, hA, hA', hFb]) | (refine sX ?_; simp only [AU, ↓reduceIte]))
            refine sE ?_
            exact Weaks.mk' (Nat.le_refl _) (by simp [ToL, lk]; exact to_ptr (by rw [lb_out kn, upd_same]; simp)) (by simp [BoxL, lk]) (outG (by simp))
          · simp [hF, hA] at hK
            subst hK
            try (simp [lb_out kn, upd_same, hF, hA, hA', hFb])
            repeat (first | (refine sR ?_; simp [lb_out kn, upd_same, hF, hA, hA', hFb]) | (refine sC ?_; simp [lb_out kn, upd_same, hF, hA, hA', hFb]) | (refine sX ?_; simp only [AU, ↓reduceIte]))
            refine sE ?_
            exact Weaks.mk' (Nat.le_refl _) (by simp [ToL, lk]; exact to_ptr (by rw [lb_out kn, upd_same]; simp)) (by simp [BoxL, lk]) (outG (by simp))
    · have n1 : (k0 == 1) = false := by rw [beq_eq_false_iff_ne]; omega
      have n10 : (k0 == 10) = false := by rw [beq_eq_false_iff_ne]; omega
      have m1 : ¬ k0 = 1 := by omega
      have m10 : ¬ k0 = 10 := by omega
      have m2 : 2 ≤ k0 := by omega
      by_cases hA : L ≤ 1
      · by_cases h7 : k0 ≤ 7
        · simp [m1, m10, m2, h7, hA] at hK
          subst hK
          try (simp [lb_out kn, upd_same, n1, n10, m1, m10, m2, h7, hA, hA'])
          repeat (first | (refine sR ?_; simp [lb_out kn, upd_same, n1, n10, m1, m10, m2, h7, hA, hA']) | (refine sC ?_; simp [lb_out kn, upd_same, n1, n10, m1, m10, m2, h7, hA, hA']) | (refine sX ?_; simp only [AU, ↓reduceIte]))
          refine sE ?_
          exact Weaks.mk' (Nat.le_refl _) (by simp [ToL, lk]; exact to_ptr (by rw [lb_out kn, upd_same]; simp)) (by simp [BoxL, lk]) (outG (by simp))
        · have e2 : (k0 == 2) = false := by rw [beq_eq_false_iff_ne]; omega
          have f2 : ¬ k0 = 2 := by omega
          cases wi
          · simp [m1, m10, m2, h7, hA, f2] at hK
            subst hK
            try (simp [lb_out kn, upd_same, n1, n10, m1, m10, m2, h7, hA, hA', e2, f2])
            repeat (first | (refine sR ?_; simp [lb_out kn, upd_same, n1, n10, m1, m10, m2, h7, hA, hA', e2, f2]) | (refine sC ?_; simp [lb_out kn, upd_same, n1, n10, m1, m10, m2, h7, hA, hA', e2, f2]) | (refine sX ?_; simp only [AU, ↓reduceIte]))
            refine sE ?_
            exact Weaks.mk' (Nat.le_refl _) (by simp [ToL, lk]; exact to_ptr (by rw [lb_out kn, upd_same]; simp)) (by simp [BoxL, lk]) (outG (by simp))
          · simp [m1, m10, m2, h7, hA, f2] at hK
            subst hK
            try (simp [lb_out kn, upd_same, n1, n10, m1, m10, m2, h7, hA, hA', e2, f2])
            repeat (first | (refine sR ?_; simp [lb_out kn, upd_same, n1, n10, m1, m10, m2, h7, hA, hA', e2, f2]) | (refine sC ?_; simp [lb_out kn, upd_same, n1, n10, m1, m10, m2, h7, hA, hA', e2, f2]) | (refine sX ?_; simp only [AU, ↓reduceIte]))
            refine sE ?_
            exact Weaks.mk' (Nat.le_refl _) (by simp [ToL, lk]; exact to_ptr (by rw [lb_out kn, upd_same]; simp)) (by simp [BoxL, lk]) (outG (by simp))
      · by_cases f2 : k0 = 2
        · subst f2
          clear n1 n10 m1 m10 m2
          cases wi
          · simp [hA] at hK
            subst hK
            try (simp [lb_out kn, upd_same, hA, hA'])
            repeat (first | (refine sR ?_; simp [lb_out kn, upd_same, hA, hA']) | (refine sC ?_; simp [lb_out kn, upd_same, hA, hA']) | (refine sX ?_; simp only [AU, ↓reduceIte]))
            refine sE ?_
            exact Weaks.mk' (Nat.le_refl _) (by simp [ToL, lk]; exact to_ptr (by rw [lb_out kn, upd_same]; simp)) (by simp [BoxL, lk]) (outG (by simp))
          · simp [hA] at hK
            subst hK
            try (simp [lb_out kn, upd_same, hA, hA'])
            repeat (first | (refine sR ?_; simp [lb_out kn, upd_same, hA, hA']) | (refine sC ?_; simp [lb_out kn, upd_same, hA, hA']) | (refine sX ?_; simp only [AU, ↓reduceIte]))
            refine sE ?_
            exact Weaks.mk' (Nat.le_refl _) (by simp [ToL, lk]; exact to_ptr (by rw [lb_out kn, upd_same]; simp)) (by simp [BoxL, lk]) (outG (by simp))
        · have e2 : (k0 == 2) = false := by rw [beq_eq_false_iff_ne]; exact f2
          cases wi
          · simp [m1, m10, m2, hA, f2] at hK
            subst hK
            try (simp [lb_out kn, upd_same, n1, n10, m1, m10, m2, hA, hA', e2, f2])
            repeat (first | (refine sR ?_; simp [lb_out kn, upd_same, n1, n10, m1, m10, m2, hA, hA', e2, f2]) | (refine sC ?_; simp [lb_out kn, upd_same, n1, n10, m1, m10, m2, hA, hA', e2, f2]) | (refine sX ?_; simp only [AU, ↓reduceIte]))
            refine sE ?_
            exact Weaks.mk' (Nat.le_refl _) (by simp [ToL, lk]; exact to_ptr (by rw [lb_out kn, upd_same]; simp)) (by simp [BoxL, lk]) (outG (by simp))
          · simp [m1, m10, m2, hA, f2] at hK
            subst hK
            try (simp [lb_out kn, upd_same, n1, n10, m1, m10, m2, hA, hA', e2, f2])
            repeat (first | (refine sR ?_; simp [lb_out kn, upd_same, n1, n10, m1, m10, m2, hA, hA', e2, f2]) | (refine sC ?_; simp [lb_out kn, upd_same, n1, n10, m1, m10, m2, hA, hA', e2, f2]) | (refine sX ?_; simp only [AU, ↓reduceIte]))
            refine sE ?_
            exact Weaks.mk' (Nat.le_refl _) (by simp [ToL, lk]; exact to_ptr (by rw [lb_out kn, upd_same]; simp)) (by simp [BoxL, lk]) (outG (by simp))
  · simp only [stMk1]
    refine sN ?_
    refine sR ?_
    simp
    refine sN ?_
    refine AL.cutP (l := [_, _]) (stMk2 cs rs pr e L wi n k (nmM rs pr k n) (nuM k n) ks nb box tok nt) True ?_ fun _ => ?_
    · clear hka hkb hkc
      have w14 : IntKind.i64.wrap (d : Int) = (d : Int) := wrap_in (by omega) (by omega)
      by_cases k1 : k = 1
      · subst k1
        have hrl := (kdM_in (rs := rs) (pr := pr) (lev := L) (wi := wi) (n := n)).2.2 hK0
        obtain ⟨j, hj⟩ : ∃ j, j = d % rs.length := ⟨_, rfl⟩
        have hjl : j < rs.length := by rw [hj]; exact Nat.mod_lt _ (by omega)
        have hjl' : (j : Int) < (rs.length : Int) := by omega
        have tj : (d : Int).tmod (rs.length : Int) = (j : Int) := by rw [Int.tmod_eq_emod_of_nonneg (by omega), hj, Int.natCast_emod]
        have hnm : nmM rs pr 1 n = rs[j] := by
          rw [nmM, if_pos rfl, ← hde, ← hj, List.getD_eq_getElem?_getD, List.getElem?_eq_getElem hjl]
          rfl
        have hnu : nuM 1 n = 0 := rfl
        have hat := strs_at hjl
        have hr0 : (rs.length : Int) ≠ 0 := by omega
        rw [hnm, hnu]
        try (simp [lb_out kn, upd_same, d14, tj, w14, hjl, hjl', hr0, hrl])
        repeat (first | (refine sR ?_; simp [lb_out kn, upd_same, d14, tj, w14, hjl, hjl', hr0, hrl]) | (refine sC ?_; simp [lb_out kn, upd_same, d14, tj, w14, hjl, hjl', hr0, hrl]) | (refine sX ?_; simp only [AU, ↓reduceIte]))
        refine sE ?_
        exact Weaks.mk' (Nat.le_refl _) (by simp [ToL, lk]; exact to_ptr (by rw [lb_out kn, upd_same]; simp)) (by simp [BoxL, lk]) (outG (by simp))
      · by_cases k10 : k = 10
        · subst k10
          have hpl := (kdM_in (rs := rs) (pr := pr) (lev := L) (wi := wi) (n := n)).2.1 hK0
          obtain ⟨j, hj⟩ : ∃ j, j = d % pr := ⟨_, rfl⟩
          have hjl : j < pr := by rw [hj]; exact Nat.mod_lt _ (by omega)
          have tj : (d : Int).tmod (pr : Int) = (j : Int) := by rw [Int.tmod_eq_emod_of_nonneg (by omega), hj, Int.natCast_emod]
          have hnm : nmM rs pr 10 n = ⟨#[112]⟩ ++ digR (j : Int) := by
            rw [nmM, if_neg (by decide), if_pos rfl, ← hde, ← hj]
            rfl
          have hnu : nuM 10 n = 0 := rfl
          have hr0 : (pr : Int) ≠ 0 := by omega
          have hdg := digits_c (j : Int) (by omega) (by omega)
          have hdz := digR_size (j : Int)
          rw [hnm, hnu]
          generalize digR (j : Int) = DG at *
          try (simp [lb_out kn, upd_same, d14, tj, w14, hr0, hpl])
          repeat (first | (refine sR ?_; simp [lb_out kn, upd_same, d14, tj, w14, hr0, hpl]) | (refine sC ?_; simp [lb_out kn, upd_same, d14, tj, w14, hr0, hpl]) | (refine sX ?_; simp only [AU, ↓reduceIte]))
          refine Stop.of_d (hdg _ _) ?_
          simp
          have z1 : (⟨#[112]⟩ : ByteArray).size = 1 := rfl
          refine ⟨by omega, ?_⟩
          try (simp [lb_out kn, upd_same])
          repeat (first | (refine sR ?_; simp [lb_out kn, upd_same]) | (refine sC ?_; simp [lb_out kn, upd_same]) | (refine sX ?_; simp only [AU, ↓reduceIte]))
          refine sE ?_
          exact Weaks.mk' (Nat.le_refl _) (by simp [ToL, lk]; exact to_ptr (by rw [lb_out kn, upd_same]; simp)) (by simp [BoxL, lk]) (outG (by simp))
        · have c1 : (k == 1) = false := by rw [beq_eq_false_iff_ne]; exact k1
          have c10 : (k == 10) = false := by rw [beq_eq_false_iff_ne]; exact k10
          have hnm : nmM rs pr k n = ⟨#[]⟩ := by rw [nmM, if_neg k1, if_neg k10]
          rw [hnm]
          by_cases k6 : k = 6
          · subst k6
            obtain ⟨j, hj⟩ : ∃ j, j = d % 3 := ⟨_, rfl⟩
            have tj : (d : Int).tmod 3 = (j : Int) := by rw [Int.tmod_eq_emod_of_nonneg (by omega)]; omega
            have hnu : nuM 6 n = 1 + (j : Int) := by rw [nuM, if_pos rfl, ← hde, ← hj]; omega
            have wj : IntKind.i64.wrap (1 + (j : Int)) = 1 + (j : Int) := wrap_in (by omega) (by omega)
            rw [hnu]
            try (simp [lb_out kn, upd_same, d14, tj, w14, wj])
            repeat (first | (refine sR ?_; simp [lb_out kn, upd_same, d14, tj, w14, wj]) | (refine sC ?_; simp [lb_out kn, upd_same, d14, tj, w14, wj]) | (refine sX ?_; simp only [AU, ↓reduceIte]))
            refine sE ?_
            exact Weaks.mk' (Nat.le_refl _) (by simp [ToL, lk]; exact to_ptr (by rw [lb_out kn, upd_same]; simp)) (by simp [BoxL, lk]) (outG (by simp))
          · have c6 : (k == 6) = false := by rw [beq_eq_false_iff_ne]; exact k6
            have hnu : nuM k n = 0 := by rw [nuM, if_neg k6]
            rw [hnu]
            try (simp [lb_out kn, upd_same, c1, c10, c6, k1, k10, k6])
            repeat (first | (refine sR ?_; simp [lb_out kn, upd_same, c1, c10, c6, k1, k10, k6]) | (refine sC ?_; simp [lb_out kn, upd_same, c1, c10, c6, k1, k10, k6]) | (refine sX ?_; simp only [AU, ↓reduceIte]))
            refine sE ?_
            exact Weaks.mk' (Nat.le_refl _) (by simp [ToL, lk]; exact to_ptr (by rw [lb_out kn, upd_same]; simp)) (by simp [BoxL, lk]) (outG (by simp))
    · simp only [stMk2]
      clear hka hkb hkc
      have hR := mk46_succ rs pr lev wi cs hne (k := k) (by rw [← hLe]; exact hK0.symm)
      rw [← hLe] at hR
      obtain ⟨ct, hct⟩ : ∃ ct, ct = ctM k n := ⟨_, rfl⟩
      have hlow := fun h => kdM_low (rs := rs) (pr := pr) (lev := L) (wi := wi) (n := n) h
      rw [hK0] at hlow
      rw [← hct] at hR
      obtain ⟨j2, hj2⟩ : ∃ j, j = d % 2 := ⟨_, rfl⟩
      have t2 : (d : Int).tmod 2 = (j2 : Int) := by rw [Int.tmod_eq_emod_of_nonneg (by omega)]; omega
      have w14 : IntKind.i64.wrap (d : Int) = (d : Int) := wrap_in (by omega) (by omega)
      have w2 : IntKind.i64.wrap (2 + (j2 : Int)) = 2 + (j2 : Int) := wrap_in (by omega) (by omega)
      have hka : ([[D.raw (.int .i64 0)], [D.raw (.int .i64 0)], [D.raw (.int .i64 (2 + (j2 : Int)))], [D.raw (.int .i64 2)], [D.raw (.int .i64 3)], [D.raw (.int .i64 1)], [D.raw (.int .i64 1)], [D.raw (.int .i64 1)], [D.raw (.int .i64 0)], [D.raw (.int .i64 0)], [D.raw (.int .i64 0)]] : List (List D))[k.toNat]? = some [.raw (.int .i64 (ct : Int))] := by
        have hk10 : k = 1 ∨ k = 10 ∨ k = 2 ∨ k = 3 ∨ k = 4 ∨ k = 5 ∨ k = 6 ∨ k = 7 ∨ k = 8 ∨ k = 9 := by omega
        rw [hct]
        rcases hk10 with e | e | e | e | e | e | e | e | e | e <;> rw [e]
        · rfl
        · rfl
        · show some [D.raw (.int .i64 (2 + (j2 : Int)))] = some [D.raw (.int .i64 ((2 + n / 14 % 2 : Nat) : Int))]
          rw [← hde, ← hj2]
          simp
        all_goals rfl
      obtain ⟨hkl, hkc⟩ := List.getElem?_eq_some_iff.1 hka
      have hk0 : 0 ≤ k := by omega
      have hk11 : k < 11 := by omega
      have hct3 : ct ≤ 3 := by
        rw [hct]
        unfold ctM
        have := Nat.mod_lt (n / 14) (show 0 < 2 by decide)
        repeat' split
        all_goals omega
      have hctl : 0 < ct → 1 ≤ lev := fun h => by
        rcases Nat.eq_zero_or_pos lev with h0 | h0
        · have := hlow (by omega)
          have : ctM k n = 0 := by rw [ctM, if_neg (by omega), if_neg (by omega), if_neg (by omega), if_neg (by omega)]
          omega
        · exact h0
      have ht0 := TK.start htok
      obtain ⟨R, hRR⟩ : ∃ R, mkF (mk46 rs pr lev (k == 2)) ct cs.tail [] = R := ⟨_, rfl⟩
      rw [hRR] at hR
      rw [hR]
      refine sN ?_
      refine sR ?_
      simp [d14, t2, w14, w2, hk0, hk11, hkc]
      refine ⟨rfl, ?_⟩
      refine sN ?_
      refine sR ?_
      simp
      have hLL : 0 < ct → lev - 1 + 1 = lev := fun h => by have := hctl h; omega
      clear hct hlow hka hkc hK
      generalize nmM rs pr k n = nm at *
      generalize nuM k n = nu at *
      have hel : cs.tail = [] ∨ e = 1 := he.imp (fun h => by rw [h]; rfl) id
      have htl : cs.tail.length ≤ 200000000000000 := by rw [List.length_tail]; omega
      refine sN ?_
      refine AL.loopT (stMk3 rs pr e L wi n k nm nu ct ks nb box) (MkInv (mk46 rs pr lev (k == 2)) ct R e tok nt) (fun x => ct - x.i) ⟨0, cs.tail, [], .full, tok, nt⟩ (MkInv.of (Nat.zero_le _) hRR hel hc.tail htl rfl ht0.full)
        (Weaks.mk' (Nat.le_refl _) (by simp [stMk3, ToL, lk]; exact to_ptr (by rw [lb_out kn, upd_same]; simp)) (by simp [stMk3, BoxL, lk]) (outG (by simp))) ?_
      rintro ⟨i, cs1, l, own, tok1, nt1⟩ S hinv hS
      obtain ⟨hi, hq, he1, hc1, hl1, hln, htk⟩ := hinv
      simp only [stMk3] at hS hi hq he1 hc1 hl1 hln htk ⊢
      subst hS
      have hwi : IntKind.i64.wrap ((i : Int) + 1) = ((i + 1 : Nat) : Int) := by rw [wrap_in (by omega) (by omega)]; rfl
      have hwL : IntKind.i64.wrap ((L : Int) - 1) = (lev : Int) := by rw [wrap_in (by omega) (by omega)]; omega
      by_cases hlt : i < ct
      · have hlt' : (i : Int) < (ct : Int) := by omega
        have c2 := IH (lev - 1) (by omega) (by omega) (k == 2) e cs1 he1 hc1 hl1 ks
        rw [hLL (by omega)] at c2
        obtain ⟨g1, g2, g3⟩ := mk46_rest rs pr lev (k == 2) cs1
        have hm := Nat.sub_add_cancel (show 1 ≤ ct - i by omega)
        rw [← hm, mkF] at hq
        rw [show ct - i - 1 = ct - (i + 1) by omega] at hq
        have g4 : (mk46 rs pr lev (k == 2) cs1).2 = [] ∨ e = 1 := he1.imp g3 id
        obtain ⟨c3, cs3, hc3⟩ : ∃ c3 cs3, mk46 rs pr lev (k == 2) cs1 = (c3, cs3) := ⟨_, _, rfl⟩
        rw [hc3] at c2 hq g1 g2 g4
        simp only at c2 hq g1 g2 g4
        have hne7 : nb + 9 ≠ ks := by omega
        try (simp [hlt, hlt'])
        repeat (refine sR ?_; simp [hlt, hlt'])
        refine sC ?_
        simp
        refine sN ?_
        refine AL.region3 follows_Tryz (Nat.le_refl _) (by kernel_rfl) (Side.of (by simp)) [(Operand.tmp 111, Operand.tmp 113)] (by kernel_rfl) ?_
        simp [lb_out kn, upd_lb_out kn, upd_same, hwL]
        refine StopW.of_w rfl rfl (by simp only; rw [lb_out kn, upd_same]; simp) (fun box' nb' hb' => (c2 box' (by rw [hb']; simp only; rw [lb_out kn, upd_same]) nb' tok1 nt1).mono fun v m1 hq => ⟨hq.1, hq.2⟩) ?_
        simp [lb_out kn, upd_lb_out kn, upd_same, upd_upd, NK, hne7]
        refine ⟨⟨by omega, htk.live⟩, ?_⟩
        try (simp [hwi])
        repeat (first | (refine sR ?_; simp [hwi]) | (refine sC ?_; simp [hwi]) | (refine sX ?_; simp only [AU, ↓reduceIte]))
        refine sE ?_
        refine ⟨⟨i + 1, cs3, l ++ [c3], .tok nt1, upd (own.kill tok1) nt1 true, nt1 + 1⟩, MkInv.of (by omega) hq g4 (g2 hc1) (by omega) (by simp [hln]) htk.app, by simp only; omega, ?_⟩
        simp only [stMk3]
        exact Weaks.mk' (by have := htk.le; omega) (by simp [ToL, lk]; exact to_ptr (by rw [lb_out kn, upd_same]; simp)) (by simp [BoxL, lk, Cm.cells_eq]) (outG (by simp))
      · have hie : i = ct := by omega
        subst hie
        rw [Nat.sub_self, mkF] at hq
        subst hq
        try (simp [hlt])
        repeat (first | (refine sR ?_; simp [hlt]) | (refine sC ?_; simp [hlt]) | (refine sX ?_; simp only [AU, ↓reduceIte]))
        refine sT ?_
        try simp only [AU]
        refine ⟨by simp, (Fin.gen (av := Cm.av (.mk k nm nu l)) (tok' := tok) (nt' := nt) (by simp [resAs, resA, lk]; rfl) (by rw [← upd_lb_out kn, hbox]) (Nat.le_refl _) htk.le (fun t ht => ⟨htk.old t ht, .inr (htok t ht)⟩) (outG (by simp)) (by simp [packA, Cm.kind, Cm.name, Cm.num, Cm.kids, cms])).mono fun v m hq => ?_⟩
        exact hq
end Go.AM
namespace Go.AM
open Go Go.Proofs
abbrev codesD (l : List (List Int)) : D := .sl 1 (l.map fun c => [byE 1 c])
structure CodesOk (l : List (List Int)) : Prop where
  len : l.length ≤ 200000000000000
  each : ∀ c ∈ l, c.length ≤ 200000000000000 ∧ B8s c
theorem codes_at {l : List (List Int)} {i : Nat} (h : i < l.length) : (l.map fun c => [byE 1 c])[i]? = some [byE 1 l[i]] := by simp [h]
structure AccMd where
  i : Nat
  own : Own
  tok : Nat → Bool
  nt : Nat
def stMd (codes : List (List Int)) (rs : List ByteArray) (nb : Nat) (box : Nat → Option (List (List AV))) (x : AccMd) : AState :=
  ⟨tl [(0, .d (codesD codes)), (1, .d (strs rs)), (5, .ptr (nb + 5) 0 0), (4, .ptr (nb + 4) 0 0), (6, I x.i)], lb nb box [(5, [[.osl 5 ((md46 codes rs x.i).map Pr.cells) x.own]]), (4, [[nilS]])], x.tok, x.nt⟩
def stMe (codes : List (List Int)) (rs : List ByteArray) (nb : Nat) (box : Nat → Option (List (List AV))) (x : AccMd) : AState :=
  ⟨tl [(0, .d (codesD codes)), (1, .d (strs rs)), (5, .ptr (nb + 5) 0 0), (4, .ptr (nb + 4) 0 0), (6, I x.i), (7, .ptr (nb + 25) 0 0)], lb nb box [(25, [mkRow 0 [] rs x.i]), (5, [[.osl 5 ((md46 codes rs x.i).map Pr.cells) x.own]]), (4, [[nilS]])], x.tok, x.nt⟩
set_option maxHeartbeats 4000000 in
set_option maxRecDepth 100000 in
theorem made46_c (codes : List (List Int)) (hc : CodesOk codes) (rs : List ByteArray) (hrs : rs.length ≤ 20) (tok : Nat → Bool) (nt : Nat) :
    DCall Tryz.prog 26 [.d (codesD codes), .d (strs rs)] tok nt (prsAv (md46 codes rs (mdN codes))) tok nt := by
  intro box nb
  have hlc := hc.len
  refine sB Tryz.func26 Tryz.ntmps26 ?_
  intro hbox htok
  simp only at hbox htok
  apply AL.start
  have ht0 := TK.start htok
  try (simp)
  repeat (refine sR ?_; simp)
  refine sN ?_
  refine AL.loopT (stMd codes rs nb box) (fun x => x.i ≤ mdN codes ∧ TK tok nt x.tok x.nt [x.own]) (fun x => mdN codes - x.i) ⟨0, .full, tok, nt⟩ ⟨Nat.zero_le _, ht0.full⟩
    (Weaks.mk (Nat.le_refl _) rfl (by simp [stMd, ToL, lk]) (by simp [stMd, BoxL, lk, md46])) ?_
  rintro ⟨i, own, tok1, nt1⟩ S ⟨hi, htk⟩ hS
  simp only [stMd] at hS hi htk ⊢
  subst hS
  have hN : mdN codes = max 1 (min 4 codes.length) := rfl
  have hwi : IntKind.i64.wrap ((i : Int) + 1) = ((i + 1 : Nat) : Int) := by rw [wrap_in (by omega) (by omega)]; rfl
  have hlen := md46_len codes rs i
  have hsn := md46_succ codes rs i
  by_cases hlt : i < mdN codes
  · have hdg := digits_c (i : Int) (by omega) (by omega)
    have hdz := digR_size (i : Int)
    have hi4 : (i : Int) < 4 := by omega
    refine sN ?_
    refine AL.cutP (l := [_, _]) (stMd codes rs nb box ⟨i, own, tok1, nt1⟩) True ?_ fun _ => ?_
    · by_cases h0 : i = 0
      · have h0b : ((i : Int) == 0) = true := by rw [beq_iff_eq]; omega
        try (simp [hi4, h0b])
        repeat (first | (refine sR ?_; simp [hi4, h0b]) | (refine sC ?_; simp [hi4, h0b]) | (refine sX ?_; simp only [AU, ↓reduceIte]))
        refine sE ?_
        exact Weaks.mk htk.le rfl (by simp [stMd, ToL, lk]) (by simp [stMd, BoxL, lk])
      · have h0b : ((i : Int) == 0) = false := by rw [beq_eq_false_iff_ne]; omega
        have hic : i < codes.length := by omega
        have hic' : (i : Int) < (codes.length : Int) := by omega
        try (simp [hi4, h0b, h0, hic, hic'])
        repeat (first | (refine sR ?_; simp [hi4, h0b, h0, hic, hic']) | (refine sC ?_; simp [hi4, h0b, h0, hic, hic']) | (refine sX ?_; simp only [AU, ↓reduceIte]))
        refine sE ?_
        exact Weaks.mk htk.le rfl (by simp [stMd, ToL, lk]) (by simp [stMd, BoxL, lk])
    · simp only [stMd]
      by_cases hic : i < codes.length
      · have hic' : (i : Int) < (codes.length : Int) := by omega
        obtain ⟨cz, cb⟩ := hc.each _ (List.getElem_mem hic)
        have hat := codes_at hic
        have hcd : codes.getD i [] = codes[i] := by simp [hic]
        rw [hcd] at hsn
        refine sN ?_
        refine sR ?_
        simp
        refine sN ?_
        refine sR ?_
        simp [hic, hic']
        have hmk := make46_c rs hrs i (by omega) 4 3 (by decide) (by decide) false 1 codes[i] (.inr rfl) cb cz
        obtain ⟨c3, cs3, hc3⟩ : ∃ c3 cs3, mk46 rs i (3 + 1) false codes[i] = (c3, cs3) := ⟨_, _, rfl⟩
        rw [hc3] at hmk
        rw [show mk46 rs i 4 false codes[i] = (c3, cs3) from hc3] at hsn
        refine sC ?_
        simp
        refine sR ?_
        simp [hic, hic']
        refine sN ?_
        refine AL.region3 follows_Tryz (Nat.le_refl _) (by kernel_rfl) (Side.of (by simp)) [(Operand.tmp 37, Operand.tmp 39), (Operand.tmp 37, Operand.tmp 42)] (by kernel_rfl) ?_
        simp [lb_at, lk, upd_lb]
        refine StopW.of_d (hdg _ _) ?_
        simp [lb_at, lk, upd_lb]
        have z1 : (⟨#[112]⟩ : ByteArray).size = 1 := rfl
        refine ⟨by omega, ?_⟩
        refine StopW.of_w rfl rfl (by simp [lb_at, lk]) (fun box' nb' hb' => (hmk (nb + 25) box' (by rw [hb']; simp [lb_at, lk]) nb' tok1 nt1).mono fun v m1 hq => ⟨hq.1, hq.2⟩) ?_
        simp [lb_at, lk, upd_lb, upd_same, upd_upd, NK]
        refine ⟨⟨by omega, htk.live⟩, ?_⟩
        try (simp [hwi])
        repeat (first | (refine sR ?_; simp [hwi]) | (refine sC ?_; simp [hwi]) | (refine sX ?_; simp only [AU, ↓reduceIte]))
        refine sE ?_
        refine ⟨⟨i + 1, .tok nt1, upd (own.kill tok1) nt1 true, nt1 + 1⟩, ⟨by show i + 1 ≤ mdN codes; omega, htk.app⟩, by show mdN codes - (i + 1) < mdN codes - i; omega, ?_⟩
        simp only [stMd]
        exact Weaks.mk (by have := htk.le; omega) rfl (by simp [ToL, lk]) (by simp [BoxL, lk, hsn, Cm.cells_eq, pNm, sP])
      · have hic' : ¬ (i : Int) < (codes.length : Int) := by omega
        have hcd : codes.getD i [] = [] := by simp [hic]
        rw [hcd] at hsn
        refine sN ?_
        refine sR ?_
        simp
        refine sN ?_
        refine sR ?_
        simp [hic, hic']
        have hmk := make46_c rs hrs i (by omega) 4 3 (by decide) (by decide) false 0 [] (.inl rfl) (by simp [B8s]) (by simp)
        obtain ⟨c3, cs3, hc3⟩ : ∃ c3 cs3, mk46 rs i (3 + 1) false [] = (c3, cs3) := ⟨_, _, rfl⟩
        rw [hc3] at hmk
        rw [show mk46 rs i 4 false [] = (c3, cs3) from hc3] at hsn
        refine sC ?_
        simp
        refine AL.weak (S' := stMe codes rs nb box ⟨i, own, tok1, nt1⟩) (Weaks.mk htk.le rfl (by simp [stMe, ToL, lk]) (by simp [stMe, BoxL, lk, byE])) ?_
        simp only [stMe]
        refine sN ?_
        refine AL.region3 follows_Tryz (Nat.le_refl _) (by kernel_rfl) (Side.of (by simp)) [(Operand.tmp 37, Operand.tmp 39), (Operand.tmp 37, Operand.tmp 42)] (by kernel_rfl) ?_
        simp [lb_at, lk, upd_lb]
        refine StopW.of_d (hdg _ _) ?_
        simp [lb_at, lk, upd_lb]
        have z1 : (⟨#[112]⟩ : ByteArray).size = 1 := rfl
        refine ⟨by omega, ?_⟩
        refine StopW.of_w rfl rfl (by simp [lb_at, lk]) (fun box' nb' hb' => (hmk (nb + 25) box' (by rw [hb']; simp [lb_at, lk]) nb' tok1 nt1).mono fun v m1 hq => ⟨hq.1, hq.2⟩) ?_
        simp [lb_at, lk, upd_lb, upd_same, upd_upd, NK]
        refine ⟨⟨by omega, htk.live⟩, ?_⟩
        try (simp [hwi])
        repeat (first | (refine sR ?_; simp [hwi]) | (refine sC ?_; simp [hwi]) | (refine sX ?_; simp only [AU, ↓reduceIte]))
        refine sE ?_
        refine ⟨⟨i + 1, .tok nt1, upd (own.kill tok1) nt1 true, nt1 + 1⟩, ⟨by show i + 1 ≤ mdN codes; omega, htk.app⟩, by show mdN codes - (i + 1) < mdN codes - i; omega, ?_⟩
        simp only [stMd]
        exact Weaks.mk (by have := htk.le; omega) rfl (by simp [ToL, lk]) (by simp [BoxL, lk, hsn, Cm.cells_eq, pNm, sP])
  · have hie : i = mdN codes := by omega
    have hi1 : 1 ≤ i := by omega
    have h0b : ((i : Int) == 0) = false := by rw [beq_eq_false_iff_ne]; omega
    have h0 : ¬ i = 0 := by omega
    by_cases hic : i < codes.length
    · have hic' : (i : Int) < (codes.length : Int) := by omega
      have hi4 : ¬ (i : Int) < 4 := by omega
      subst hie
      try (simp [h0b, h0, hic, hic', hi4])
      repeat (refine sR ?_; simp [h0b, h0, hic, hic', hi4])
      refine sC ?_
      simp
      refine sX ?_
      simp only [AU, ↓reduceIte]
      try (simp)
      repeat (refine sR ?_; simp)
      refine sT ?_
      try simp only [AU]
      refine ⟨by simp, sF hbox htok htk.old htk.le ?_⟩
      simp [packA]
    · have hic' : ¬ (i : Int) < (codes.length : Int) := by omega
      subst hie
      try (simp [h0b, h0, hic, hic'])
      repeat (refine sR ?_; simp [h0b, h0, hic, hic'])
      refine sC ?_
      simp
      refine sX ?_
      simp only [AU, ↓reduceIte]
      try (simp)
      repeat (refine sR ?_; simp)
      refine sT ?_
      try simp only [AU]
      refine ⟨by simp, sF hbox htok htk.old htk.le ?_⟩
      simp [packA]
def rules3 : List ByteArray := [⟨#[109, 101, 114, 103, 101]⟩, ⟨#[112, 97, 121]⟩, ⟨#[115, 112, 108, 105, 116]⟩]
theorem rules_c (tok : Nat → Bool) (nt : Nat) : DCall Tryz.prog 27 [] tok nt (.d (strs rules3)) tok nt := by
  intro box nb
  refine sB Tryz.func27 Tryz.ntmps27 ?_
  intro hbox htok
  simp only at hbox htok
  apply AL.start
  try (simp)
  repeat (refine sR ?_; simp)
  refine ⟨rfl, ?_⟩
  try (simp)
  repeat (refine sR ?_; simp)
  refine sT ?_
  try simp only [AU]
  refine ⟨by simp, sF hbox htok (fun _ h => h) (Nat.le_refl _) ?_⟩
  simp [packA, rules3, strs]
end Go.AM
namespace Go.AM
open Go Go.Proofs
theorem md46_ok (codes : List (List Int)) {m : Nat} (h1 : 1 ≤ m) (h4 : m ≤ 10) : PrsOk (md46 codes rules3 m) ∧ (faultR (md46 codes rules3 m) [] false).2 = 0 ∧ (faultR (md46 codes rules3 m) rules3 true).2 = 0 := by
  have v1 := md46_valid (codes := codes) (rs := rules3) (rs' := []) (asked := false) h1 h4 (by decide) (by simp)
  have v2 := md46_valid (codes := codes) (rs := rules3) (rs' := rules3) (asked := true) h1 h4 (by decide) (fun _ r h => h)
  exact ⟨fault_ok (by rw [v1]), by rw [v1], by rw [v2]⟩
theorem mdN_rng (codes : List (List Int)) : 1 ≤ mdN codes ∧ mdN codes ≤ 4 := by unfold mdN; omega
end Go.AM
namespace Go.AM
open Go Go.Proofs Go.RowKit Go.Sort
theorem rv_d {G : Gh} {w : World} {x : D} {v : Value} (h : RV G w (.d x) v) : Rdw w x v := by
  cases h with | d h => exact h.mono fun a u _ hc => ⟨trivial, hc⟩
theorem awake_k (w : World) : Calls Tryz.prog 11 #[] w fun e w' => e = .returned (.bool true) ∧ w.grownBy w' none := by
  refine ((awake_c _ _).plain (vals := []) RVs.nil).mono ?_
  rintro e w' ⟨u, G', rfl, hu, hg⟩
  cases hu with | d hu => cases hu; exact ⟨rfl, hg⟩
theorem rules_k (w : World) : Calls Tryz.prog 27 #[] w fun e w' => ∃ v, e = .returned v ∧ Rdw w' (strs rules3) v ∧ w.grownBy w' none := by
  refine ((rules_c _ _).plain (vals := []) RVs.nil).mono ?_
  rintro e w' ⟨u, G', rfl, hu, hg⟩
  exact ⟨u, rfl, rv_d hu, hg⟩
theorem agg1 {G : Gh} {w : World} {x : D} {u : Value} (h : RV G w (.agg [.d x]) u) : ∃ v, u = .agg #[v] ∧ Rdw w x v := by
  cases h with
  | @agg _ vs hl hv ho =>
    match vs, hl with
    | [a], _ =>
      have h0 := hv 0 (by simp) (by simp)
      simp only [List.getElem_cons_zero] at h0
      exact ⟨a, rfl, rv_d h0⟩
theorem made_k (codes : List (List Int)) (hc : CodesOk codes) (w : World) (cv v : Value) (h : Rdw w (codesD codes) cv) (k : Rdw w (strs rules3) v) :
    Calls Tryz.prog 26 #[cv, v] w fun e w' => ∃ v, e = .returned (.agg #[v]) ∧ Rdw w' (prs (md46 codes rules3 (mdN codes))) v ∧ w.grownBy w' none := by
  refine ((made46_c codes hc rules3 (by decide) _ _).plain (RVs.cons (.d h) (RVs.cons (.d k) RVs.nil))).mono ?_
  rintro e w' ⟨u, G', rfl, hu, hg⟩
  obtain ⟨a, rfl, ha⟩ := agg1 hu
  exact ⟨a, rfl, ha, hg⟩
theorem rvs_prs {w : World} {p : List Pr} {pv : Value} (h : Rdw w (prs p) pv) : RV G00 w (prsAv p) (.agg #[pv]) := .agg (vs := [pv]) rfl (fun i h1 h2 => by
  have : i = 0 := by simp at h1; omega
  subst this
  exact .d h) (by simpa using rdw_one h)
end Go.AM
namespace Go.AM
open Go Go.Proofs Go.Shelf
inductive LayF : List UInt8 → List Wk → Prop
  | nil : LayF [] []
  | nl {s ws} : LayF s ws → LayF (10 :: s) ws
  | wh {s ws} {b : UInt8} : b = 32 ∨ b = 9 → LayF s ws → LayF (b :: s) ws
  | wd {s ws} (w : Wk) : wdB w = true → whL s → LayF s ws → LayF (w.2.data.toList ++ s) (w :: ws)
def PutLF (x : ByteArray) (a : List Wk) : Prop := ∀ s ws, LayF s ws → LayF (x.data.toList ++ s) (a ++ ws)
def PutWF (x : ByteArray) (a : List Wk) : Prop := ∀ s ws, whL s → LayF s ws → LayF (x.data.toList ++ s) (a ++ ws)
theorem PutLF.app {x y : ByteArray} {a b : List Wk} (h : PutLF x a) (k : PutLF y b) : PutLF (x ++ y) (a ++ b) := fun s ws hs => by
  rw [ba_app_list, List.append_assoc, List.append_assoc]
  exact h _ _ (k _ _ hs)
theorem PutLF.nil : PutLF ⟨#[]⟩ [] := fun s ws hs => hs
theorem PutLF.all {x : ByteArray} {a : List Wk} (h : PutLF x a) : LayF x.data.toList a := by
  have := h [] [] .nil
  rwa [List.append_nil, List.append_nil] at this
theorem putL_padF : ∀ n, PutLF (padR n) []
  | 0 => PutLF.nil
  | n + 1 => by
    have h : PutLF ⟨#[32, 32]⟩ [] := fun s ws hs => .wh (.inl rfl) (.wh (.inl rfl) hs)
    exact (putL_padF n).app h
theorem putW_wordF {w : Wk} (h : wdB w = true) : PutWF w.2 [w] := fun s ws hw hs => .wd w h hw hs
theorem PutWF.sp {x y : ByteArray} {a b : List Wk} (h : PutWF x a) (k : PutWF y b) : PutWF (x ++ (⟨#[32]⟩ ++ y)) (a ++ b) := fun s ws hw hs => by
  rw [ba_app_list, ba_app_list, List.append_assoc, List.append_assoc, List.append_assoc]
  exact h _ _ (whL_sp _) (.wh (.inl rfl) (k _ _ hw hs))
theorem putL_lineF {t : ByteArray} {a : List Wk} (h : PutWF t a) (n : Nat) : PutLF (lineR n t) a := fun s ws hs => by
  have h1 : PutLF (t ++ ⟨#[10]⟩) a := fun s ws hs => by
    rw [ba_app_list, List.append_assoc]
    exact h _ _ (whL_nl _) (.nl hs)
  exact ((putL_padF n).app h1) s ws hs
def HdOkF (ws : List ByteArray) (hs : List (List Wk)) : Prop := ∀ i, PutWF (wdAt ws i) (hdAt hs i)
theorem hd_ofF {ws : List ByteArray} {hs : List (List Wk)} (hl : ws.length = hs.length) (h1 : 1 ≤ ws.length) (h : ∀ i, i < ws.length → PutWF (ws.getD i ⟨#[]⟩) (hs.getD i [])) : HdOkF ws hs := fun i => by
  unfold wdAt hdAt
  rw [← hl]
  exact h _ (by omega)
theorem putW_twoF {a b : ByteArray} {k l : Int} (h : wdB (k, a) = true) (h2 : wdB (l, b) = true) : PutWF (a ++ (⟨#[32]⟩ ++ b)) [(k, a), (l, b)] := (putW_wordF h).sp (putW_wordF h2)
theorem hd_okF {k n : Int} (h : k = 6 → 1 ≤ n ∧ n ≤ 9) : HdOkF (wdsR k n) (hdW k n) := by
  have w1 := fun s h => putW_wordF (wd_kw s h)
  have w2 := fun s h => putW_twoF (wd_sg sCl (by simp)) (wd_kw s h)
  unfold wdsR hdW
  split
  · refine hd_ofF rfl (by decide) fun i hi => ?_
    match i, hi with
    | 0, _ => exact w1 sCho (by simp)
    | 1, _ => exact w2 sOr (by simp)
  · split
    · refine hd_ofF rfl (by decide) fun i hi => ?_
      match i, hi with
      | 0, _ => exact w1 sIf (by simp)
      | 1, _ => exact w2 sThe (by simp)
      | 2, _ => exact w2 sEls (by simp)
    · split
      · refine hd_ofF rfl (by decide) fun i hi => ?_
        match i, hi with
        | 0, _ => exact w1 sLoo (by simp)
      · split
        · rename_i e
          refine hd_ofF rfl (Nat.le_refl 1) fun i hi => ?_
          match i, hi with
          | 0, _ =>
            have := putW_twoF (wd_kw sRep (by simp)) (wd_dig (h e))
            rw [← ByteArray.append_assoc] at this
            exact this
        · refine hd_ofF rfl (by decide) fun i hi => ?_
          match i, hi with
          | 0, _ => exact w1 sTry (by simp)
theorem put_fmF : ∀ (n : Nat) (c : Cm), c.size < n → c.Fn → ∀ (bl : Bool) (ind : Nat), PutLF (fmC bl ind c) (wsC bl c)
  | 0, c, h, _ => absurd h (Nat.not_lt_zero _)
  | n + 1, c, hz, hf => fun bl ind => by
    have ih := fun x (hx : x ∈ c.kids) => put_fmF n x (by have := Cm.kid_size hx; omega) (hf.kid x hx)
    have w1 := fun s h => putW_wordF (wd_kw s h)
    have w2 := fun s h => putW_wordF (wd_sg s h)
    have k1 : ∀ l : List Cm, (∀ x ∈ l, ∀ (bl : Bool) (ind : Nat), PutLF (fmC bl ind x) (wsC bl x)) → PutLF (fmS ind l) (wsS l) := by
      intro l
      induction l with
      | nil => intro _; rw [fmS, wsS]; exact PutLF.nil
      | cons x r ih2 =>
        intro hx
        rw [fmS, wsS]
        exact (hx x (by simp) false ind).app (ih2 fun y hy => hx y (by simp [hy]))
    have k2 : ∀ (ws : List ByteArray) (hs : List (List Wk)), HdOkF ws hs → ∀ (l : List Cm) (i : Nat), (∀ x ∈ l, ∀ (bl : Bool) (ind : Nat), PutLF (fmC bl ind x) (wsC bl x)) → PutLF (fmK ind ws i l) (wsK hs i l) := by
      intro ws hs hh l
      induction l with
      | nil => intro i _; rw [fmK, wsK]; exact PutLF.nil
      | cons x r ih2 =>
        intro i hx
        rw [fmK, wsK]
        refine PutLF.app ?_ (ih2 (i + 1) fun y hy => hx y (by simp [hy]))
        refine PutLF.app ?_ (hx x (by simp) true (ind + 1))
        rw [fOpen_eq]
        exact putL_lineF ((hh i).sp (w2 sOp (by simp))) ind
    rw [fmC_eq, wsC_eq]
    split
    · exact k1 _ ih
    · split
      · rename_i e
        rw [fApply_eq]
        exact putL_lineF ((w1 sApp (by simp)).sp ((putW_wordF (wd_name (hf.nm (.inl e)))).sp (w2 sSem (by simp)))) ind
      · split
        · rename_i e
          rw [fCall_eq]
          exact putL_lineF ((w1 sCal (by simp)).sp ((putW_wordF (wd_name (hf.nm (.inr e)))).sp (w2 sSem (by simp)))) ind
        · split
          · rw [fSkip_eq]
            exact putL_lineF ((w1 sSki (by simp)).sp (w2 sSem (by simp))) ind
          · split
            · rw [fFail_eq]
              exact putL_lineF ((w1 sFai (by simp)).sp (w2 sSem (by simp))) ind
            · exact (k2 _ _ (hd_okF hf.num) c.kids 0 ih).app (putL_lineF (w2 sCl (by simp)) ind)
theorem put_prsF : ∀ l : List Pr, PrFn l → PutLF (fmPs l) (wsPs l)
  | [], _ => PutLF.nil
  | q :: r, h => by
    obtain ⟨h1, h2⟩ := h q (by simp)
    have w1 := fun s h => putW_wordF (wd_kw s h)
    have w2 := fun s h => putW_wordF (wd_sg s h)
    rw [fmPs, wsPs, fmP, wsP, fPro_eq]
    exact (((putL_lineF ((w1 sPro (by simp)).sp ((putW_wordF (wd_name h1)).sp (w2 sOp (by simp)))) 0).app (put_fmF _ q.body (Nat.lt_succ_self _) h2 true 1)).app (putL_lineF (w2 sCl (by simp)) 0)).app (put_prsF r fun x hx => h x (by simp [hx]))
structure WdA (w : ByteArray) : Prop where
  ne : w.data.toList ≠ []
  lo : ∀ b ∈ w.data.toList, b.toNat < 128 ∧ Lib.isSp b = false
theorem run_mem {p : Int → Bool} {w : ByteArray} (h : runN p w 0 = w.size) : ∀ b ∈ w.data.toList, p (b.toNat : Int) = true := by
  unfold runN at h
  rw [List.drop_zero] at h
  have hall : w.data.toList.takeWhile (fun b => p (b.toNat : Int)) = w.data.toList := (List.takeWhile_prefix (l := w.data.toList) (fun b => p (b.toNat : Int))).eq_of_length (by rw [h, sz_list])
  intro b hb
  rw [← hall] at hb
  have hall2 : ∀ l : List UInt8, b ∈ l.takeWhile (fun b => p (b.toNat : Int)) → p (b.toNat : Int) = true := by
    intro l
    induction l with
    | nil => intro h; simp at h
    | cons x r ih =>
      intro h
      rw [List.takeWhile_cons] at h
      split at h
      · rename_i hx
        rcases List.mem_cons.1 h with rfl | h
        · exact hx
        · exact ih h
      · simp at h
  exact hall2 _ hb
theorem sp_of {b : UInt8} (h : 33 ≤ b.toNat) : Lib.isSp b = false := by
  have hn : ∀ k : UInt8, k.toNat ≤ 32 → (b == k) = false := fun k hk => by
    rw [beq_eq_false_iff_ne]
    intro e
    subst e
    omega
  simp only [Lib.isSp]
  rw [hn 9 (by decide), hn 10 (by decide), hn 11 (by decide), hn 12 (by decide), hn 13 (by decide), hn 32 (by decide)]
  rfl
theorem wd_a {w : Wk} (h : wdB w = true) : WdA w.2 := by
  obtain ⟨k, w⟩ := w
  simp only [wdB, Bool.or_eq_true, Bool.and_eq_true, decide_eq_true_eq] at h
  rcases h with ⟨⟨rfl, hn⟩ | ⟨rfl, hd⟩⟩ | ⟨rfl, hg⟩
  · simp only [nameB, Bool.and_eq_true, decide_eq_true_eq] at hn
    obtain ⟨⟨⟨h1, h20⟩, hl⟩, hr⟩ := hn
    refine ⟨fun e => ?_, fun b hb => ?_⟩
    · have := sz_list w
      simp only at e
      rw [e] at this
      simp at this
      omega
    · have := run_mem hr b hb
      simp only [parB, letB, digB, Bool.or_eq_true, decide_eq_true_eq, beq_iff_eq] at this
      exact ⟨by omega, sp_of (by omega)⟩
  · simp only [digW, Bool.and_eq_true, decide_eq_true_eq] at hd
    obtain ⟨h1, hl⟩ := hd
    have hr : runN digB w 0 = w.size := by rw [runN_step (by omega) hl, runN_end (by omega), h1]
    refine ⟨fun e => ?_, fun b hb => ?_⟩
    · have := sz_list w
      simp only at e
      rw [e] at this
      simp at this
      omega
    · have := run_mem hr b hb
      simp only [digB, decide_eq_true_eq] at this
      exact ⟨by omega, sp_of (by omega)⟩
  · rcases hg with (rfl | rfl) | rfl <;> exact ⟨by decide, by decide⟩
theorem layF_ascii {l : List UInt8} {ws : List Wk} (h : LayF l ws) : ∀ b ∈ l, b.toNat < 128 := by
  induction h with
  | nil => simp
  | nl h ih =>
    intro b hb
    rcases List.mem_cons.1 hb with rfl | hb
    · decide
    · exact ih b hb
  | wh hw h ih =>
    intro b hb
    rcases List.mem_cons.1 hb with rfl | hb
    · rcases hw with rfl | rfl <;> decide
    · exact ih b hb
  | wd w hw hs h ih =>
    intro b hb
    rcases List.mem_append.1 hb with hb | hb
    · exact ((wd_a hw).lo b hb).1
    · exact ih b hb
theorem fieldsGo_word : ∀ (w cur s : List UInt8), (∀ b ∈ w, Lib.isSp b = false) → Lib.fieldsGo cur (w ++ s) = Lib.fieldsGo (cur ++ w) s
  | [], cur, s, _ => by rw [List.nil_append, List.append_nil]
  | b :: w, cur, s, h => by
    rw [List.cons_append, Lib.fieldsGo, h b (by simp), if_neg (by simp), fieldsGo_word w (cur ++ [b]) s fun x hx => h x (by simp [hx]), List.append_assoc, List.singleton_append]
theorem fieldsGo_stop {cur s : List UInt8} (hc : cur ≠ []) (hs : whL s) : Lib.fieldsGo cur s = cur :: Lib.fieldsGo [] s := by
  have he : cur.isEmpty = false := by cases cur with | nil => exact absurd rfl hc | cons => rfl
  cases s with
  | nil => rw [Lib.fieldsGo, Lib.fieldsGo, he]; rfl
  | cons b r =>
    have hb : Lib.isSp b = true := by rcases hs b r rfl with rfl | rfl | rfl <;> decide
    rw [Lib.fieldsGo, Lib.fieldsGo, hb, if_pos rfl, if_pos rfl, he]
    rfl
theorem layF_fields {l : List UInt8} {ws : List Wk} (h : LayF l ws) : Lib.fields l = ws.map fun w => w.2.data.toList := by
  unfold Lib.fields
  induction h with
  | nil => rfl
  | nl h ih => rw [Lib.fieldsGo, if_pos (by decide)]; exact ih
  | wh hw h ih => rw [Lib.fieldsGo, if_pos (by rcases hw with rfl | rfl <;> decide)]; exact ih
  | wd w hw hs h ih =>
    have ha := wd_a hw
    rw [fieldsGo_word _ _ _ fun b hb => (ha.lo b hb).2, List.nil_append, fieldsGo_stop ha.ne hs, ih]
    rfl
def blankB (k : Nat) : ByteArray := if k = 0 then ⟨#[32]⟩ else if k = 1 then ⟨#[10]⟩ else if k = 2 then ⟨#[9]⟩ else if k = 3 then ⟨#[32, 32]⟩ else ⟨#[32, 35, 32, 97, 32, 125, 10]⟩
def bkAt (bs : List Int) (i : Nat) : Nat := if bs.length = 0 then 0 else ((bs.getD (i % bs.length) 0).toNat) % 5
def blT (bs : List Int) : Nat → List ByteArray → ByteArray
  | _, [] => ⟨#[]⟩
  | i, w :: r => (w ++ blankB (bkAt bs i)) ++ blT bs (i + 1) r
theorem blank_wh (k : Nat) (s : List UInt8) : whL ((blankB k).data.toList ++ s) := by
  unfold blankB
  repeat' split
  · exact whL_sp _
  · exact whL_nl _
  · exact whL_tb _
  · exact whL_sp _
  · exact whL_sp _
theorem blank_lay (k : Nat) {s : List UInt8} {ws : List Wk} (h : Lay s ws) : Lay ((blankB k).data.toList ++ s) ws := by
  unfold blankB
  repeat' split
  · exact .wh (.inl rfl) h
  · exact .nl h
  · exact .wh (.inr rfl) h
  · exact .wh (.inl rfl) (.wh (.inl rfl) h)
  · exact .wh (.inl rfl) (.cm [32, 97, 32, 125] (by decide) h)
theorem lay_wd {l : List UInt8} {ws : List Wk} (h : LayF l ws) : ∀ w ∈ ws, wdB w = true := by
  induction h with
  | nil => simp
  | nl h ih => exact ih
  | wh hw h ih => exact ih
  | wd w hw hs h ih =>
    intro x hx
    rcases List.mem_cons.1 hx with rfl | hx
    · exact hw
    · exact ih x hx
theorem blT_lay (bs : List Int) : ∀ (ws : List Wk) (i : Nat), (∀ w ∈ ws, wdB w = true) → Lay (blT bs i (ws.map Prod.snd)).data.toList ws
  | [], i, _ => .nil
  | w :: r, i, h => by
    rw [List.map_cons, blT, ba_app_list, ba_app_list, List.append_assoc]
    exact .wd w (h w (by simp)) (blank_wh _ _) (blank_lay _ (blT_lay bs r (i + 1) fun x hx => h x (by simp [hx])))
theorem blT_app (bs : List Int) : ∀ (a b : List ByteArray) (i : Nat), blT bs i (a ++ b) = blT bs i a ++ blT bs (i + a.length) b
  | [], b, i => by rw [List.nil_append]; exact (bEmpty_app _).symm
  | x :: a, b, i => by
    rw [List.cons_append, blT, blT, blT_app bs a b (i + 1), ByteArray.append_assoc, ByteArray.append_assoc, ByteArray.append_assoc, List.length_cons, show i + 1 + a.length = i + (a.length + 1) by omega]
theorem blT_take (bs : List Int) {l : List ByteArray} {i : Nat} (h : i < l.length) : blT bs 0 (l.take (i + 1)) = blT bs 0 (l.take i) ++ (l[i] ++ blankB (bkAt bs i)) := by
  rw [List.take_succ_eq_append_getElem h, blT_app, blT, blT, List.length_take, Nat.zero_add, Nat.min_eq_left (by omega)]
  rw [show (⟨#[]⟩ : ByteArray) = ByteArray.empty from rfl, ByteArray.append_empty]
theorem fmt_fields {p : List Pr} (h : (faultR p [] false).2 = 0) : (∀ b ∈ (fmPs p).data.toList, b.toNat < 128) ∧ Lib.fields (fmPs p).data.toList = (wsPs p).map fun w => w.2.data.toList :=
  ⟨layF_ascii (put_prsF p (fault_fn h).1).all, layF_fields (put_prsF p (fault_fn h).1).all⟩
theorem blanks_back {p : List Pr} (h : (faultR p [] false).2 = 0) (hsz : (p.map fun q => q.body.size).sum ≤ 600) (bs : List Int) (hs : (blT bs 0 ((wsPs p).map Prod.snd)).size ≤ 20000) : parseR (blT bs 0 ((wsPs p).map Prod.snd)) = (p, 0, 0) :=
  parse_words h hsz hs (blT_lay bs _ 0 (lay_wd (put_prsF p (fault_fn h).1).all))
end Go.AM
namespace Go.AM
open Go Go.Proofs Go.RowKit
theorem liesB : liesAt Tryz.prog Tryz.prog.depth 63 (2 / Tryz.prog.cellsOf 63) 0 63 1 = true := by kernel_rfl
theorem infoU8 : (Tryz.prog.info? 5).map (fun i => (i.zero, i.size, i.bytes)) = some (some (.int .u8 0), 1, 1) := by kernel_rfl
structure Gu (b : Nat) (w w' : World) : Prop where
  os : w'.os = w.os
  tape : w'.tape = w.tape
  output : w'.output = w.output
  size : w.heap.size ≤ w'.heap.size
  block : ∀ k, k < w.heap.size → (k < b ∨ (k ≠ b ∧ ∀ cur f, w.heap[k]? ≠ some (.cells cur 5 f))) → w'.heap[k]? = w.heap[k]?
theorem Gu.refl (b : Nat) (w : World) : Gu b w w := ⟨rfl, rfl, rfl, Nat.le_refl _, fun _ _ _ => rfl⟩
theorem Gu.trans {b : Nat} {u v w : World} (h : Gu b u v) (k : Gu b v w) : Gu b u w :=
  ⟨k.os.trans h.os, k.tape.trans h.tape, k.output.trans h.output, Nat.le_trans h.size k.size, fun i hi hh => by
    have h1 := h.block i hi hh
    exact (k.block i (Nat.lt_of_lt_of_le hi h.size) (hh.imp id fun h2 => ⟨h2.1, fun cur f => by rw [h1]; exact h2.2 cur f⟩)).trans h1⟩
theorem Gu.grown {b : Nat} {w w' : World} (h : w.grownBy w' none) : Gu b w w' := ⟨h.os, h.tape, h.output, h.size, fun k hk _ => h.block k hk (by simp)⟩
theorem Gu.set (b : Nat) (w : World) (o : Nat) (v : Value) : Gu b w (w.setCell ⟨b, o, none⟩ v) :=
  ⟨rfl, rfl, rfl, by simp [World.setCell], fun k _ hh => Below.heap_setCell _ _ _ _ (fun e => by
    have e' : k = b := by simpa using e
    rcases hh with h | h
    · omega
    · exact h.1 e')⟩
theorem Gu.row {b : Nat} {w w' : World} {v : Value} {n : Nat} {xs : List Value} (ho : w.ownsRow b 5 1 v n xs) (h : w.grownBy w' v.ownBlock) : Gu b w w' :=
  ⟨h.os, h.tape, h.output, h.size, fun k hk hh => h.block k hk fun e => by
    rcases ho.2 with ⟨rfl, _⟩ | ⟨g, cap, cur, rfl, h1, h2, _⟩
    · cases e
    · simp only [Value.ownBlock, Option.some.injEq] at e
      subst e
      rcases hh with hh | hh
      · omega
      · exact hh.2 _ _ h2⟩
theorem Gu.cell {b : Nat} {w w' : World} (h : Gu b w w') {a : Addr} {u : Value} (hc : w.cell? a = some u) (hn : a.block < b ∨ (a.block ≠ b ∧ ∀ cur f, w.heap[a.block]? ≠ some (.cells cur 5 f))) : w'.cell? a = some u := by
  rw [World.cell?_of_block (w := w) (h.block a.block (lt_of_cell hc) hn)]
  exact hc
theorem copy_k (b : Nat) (bs : List Value) (w : World) (h : Lib.IsBuilder 63 5 b b bs w) :
    Calls Tryz.prog 70 #[.pointer (some ⟨b, 0, none⟩)] w fun e w' => e = .returned (.tuple #[]) ∧ Lib.BuilderAt 63 5 b b (.pointer (some ⟨b, 0, none⟩)) bs w' ∧ Gu b w w' := by
  rcases h with h | h
  · refine (YtedpnmlgbjcpcaaGreatDoor.bld.fresh 63 2 (by decide) liesB b w h.cell0 h.shape h.frozen0).mono ?_
    rintro e w' ⟨rfl, rfl⟩
    exact ⟨rfl, h.used _, Gu.set b w 0 _⟩
  · refine (YtedpnmlgbjcpcaaGreatDoor.bld.used b w h.cell0).mono ?_
    rintro e w' ⟨rfl, rfl⟩
    exact ⟨rfl, h, Gu.refl b _⟩
set_option maxHeartbeats 1000000 in
set_option maxRecDepth 100000 in
theorem write_k (b : Nat) (bs : List Value) (s : ByteArray) (w : World) (h : Lib.IsBuilder 63 5 b b bs w) (hlen : bs.length + s.size ≤ 100000000000000) :
    Calls Tryz.prog 33 #[.pointer (some ⟨b, 0, none⟩), .string s] w fun e w' => e = .returned (.tuple #[.int .i64 s.size, .nilIface]) ∧ Lib.IsBuilder 63 5 b b (bs ++ Lib.strCells s) w' ∧ Gu b w w' := by
  obtain ⟨i0, hi, hz0, hz1, hz2⟩ := info_parts infoU8
  go_enter Tryz.func33, Tryz.ntmps33
  go_wp2_with (go_at_call 70; refine (copy_k b bs _ h).mono ?_)
  rintro e w1 ⟨rfl, h1, hb1⟩
  obtain ⟨hB, v, hbk, hown, hne⟩ := h1
  have c0 : w1.cell? ⟨b, 0, none⟩ = some (.pointer (some ⟨b, 0, none⟩)) := by rw [Lib.cell_of_heap hbk]; rfl
  have c1 : w1.cell? ⟨b, 1, none⟩ = some v := by rw [Lib.cell_of_heap hbk]; rfl
  have hlt : b < w1.heap.size := by
    rcases Nat.lt_or_ge b w1.heap.size with h' | h'
    · exact h'
    · simp [Array.getElem?_eq_none h'] at hbk
  go_wp2_with (at_builtin; refine Lib.wpList_append_own_string _ rfl _ _ 60 9 rfl b 5 i0 Tryz.underlying60 Tryz.underlying9 hi hz0 hz1 hz2 _ _ _ rfl hown s rfl ?c3 ?c4 ?c5 ?_)
  case c3 => unfold maxLen; omega
  case c4 => omega
  case c5 => omega
  intro v' w2 hown' hgrow _
  have hb2 : w2.heap[b]? = some (.cells #[.pointer (some ⟨b, 0, none⟩), v] 63 (0, 0)) := by
    rw [hgrow.block b hlt (fun e => hne e.symm)]
    exact hbk
  have d0 : w2.cell? ⟨b, 0, none⟩ = some (.pointer (some ⟨b, 0, none⟩)) := by rw [Lib.cell_of_heap hb2]; rfl
  have d1 : w2.cell? ⟨b, 1, none⟩ = some v := by rw [Lib.cell_of_heap hb2]; rfl
  have f1 : w2.frozen? ⟨b, 1, none⟩ = false := Lib.frozen_of_heap hb2 1
  obtain ⟨ao, n', cap, rfl⟩ : ∃ ao n' cap, v' = .slice ao n' cap := by
    rcases hown'.2 with ⟨hv, _⟩ | ⟨g, cap, cur, hv, _⟩
    · exact ⟨_, _, _, hv⟩
    · exact ⟨_, _, _, hv⟩
  go_wp2
  go_ret2
  refine ⟨rfl, .inr ?_, ?_⟩
  · exact Lib.BuilderAt.put (T := 63) (e := 5) hB hb2 (bs' := bs ++ Lib.strCells s) (by simpa [Lib.strCells_length] using hown') (by decide)
  · exact (hb1.trans (Gu.row hown hgrow)).trans (Gu.set b w2 1 _)
end Go.AM
namespace Go.AM
open Go Go.Proofs
theorem fmtR_err {p : List Pr} : (fmtR p).2 = (faultR p [] false).2 := by
  unfold fmtR
  split
  · rfl
  · rename_i h; exact (Decidable.not_not.1 h).symm
theorem fmtR_txt {p : List Pr} (h : (faultR p [] false).2 = 0) : (fmtR p).1 = fmPs p := by
  unfold fmtR
  rw [h, if_neg (by simp)]
theorem fmtR_size (p : List Pr) : (fmtR p).1.size ≤ 3000000 := by
  unfold fmtR
  split
  · show 0 ≤ _; omega
  · rename_i h
    obtain ⟨h1, h2⟩ := fault_fm (Decidable.not_not.1 h)
    have := fmPs_size p h2
    simp only
    omega
end Go.AM
namespace Go.Proofs
open Go.Shelf
def Tryz.lays157_ren : Go.Shelf.Ren := ⟨fun | 157 => 32 | 229 => 68 | 199 => 69 | 261 => 109 | 311 => 144 | 312 => 145 | n => n, fun | 9 => 9 | 31 => 34 | 3 => 3 | 5 => 5 | 4 => 4 | 119 => 138 | 0 => 0 | 40 => 140 | 152 => 176 | 21 => 21 | 154 => 178 | 51 => 173 | 141 => 180 | 196 => 207 | 193 => 204 | 198 => 210 | 49 => 208 | 194 => 205 | 201 => 213 | 226 => 224 | 46 => 136 | 227 => 225 | n => n, fun | 0 => 0 | 6 => 1 | n => n⟩
theorem Tryz.lays157 : Go.Proofs.Lays.n157 Tryz.prog Tryz.lays157_ren := {
  mixed := by kernel_rfl
  f157 := Tryz.func32.trans (congrArg some (by kernel_rfl))
  f199 := Tryz.func69.trans (congrArg some (by kernel_rfl))
  f229 := Tryz.func68.trans (congrArg some (by kernel_rfl))
  f261 := Tryz.func109.trans (congrArg some (by kernel_rfl))
  f311 := Tryz.func144.trans (congrArg some (by kernel_rfl))
  f312 := Tryz.func145.trans (congrArg some (by kernel_rfl))
  t0 := Tryz.underlying0
  a0 := Tryz.isAgg0
  z0 := Tryz.sizeOf0
  v0 := Tryz.zeroValue0
  t3 := Tryz.underlying3
  a3 := Tryz.isAgg3
  z3 := Tryz.sizeOf3
  v3 := Tryz.zeroValue3
  t4 := Tryz.underlying4
  a4 := Tryz.isAgg4
  z4 := Tryz.sizeOf4
  v4 := Tryz.zeroValue4
  t5 := Tryz.underlying5
  a5 := Tryz.isAgg5
  z5 := Tryz.sizeOf5
  v5 := Tryz.zeroValue5
  t9 := Tryz.underlying9
  a9 := Tryz.isAgg9
  z9 := Tryz.sizeOf9
  v9 := Tryz.zeroValue9
  t21 := Tryz.underlying21
  a21 := Tryz.isAgg21
  z21 := Tryz.sizeOf21
  v21 := Tryz.zeroValue21
  t31 := Tryz.underlying34
  a31 := Tryz.isAgg34
  z31 := Tryz.sizeOf34
  v31 := Tryz.zeroValue34
  t40 := Tryz.underlying140
  a40 := Tryz.isAgg140
  z40 := Tryz.sizeOf140
  v40 := Tryz.zeroValue140
  t46 := Tryz.underlying136
  a46 := Tryz.isAgg136
  z46 := Tryz.sizeOf136
  v46 := Tryz.zeroValue136
  t49 := Tryz.underlying208
  a49 := Tryz.isAgg208
  z49 := Tryz.sizeOf208
  v49 := Tryz.zeroValue208
  t51 := Tryz.underlying173
  a51 := Tryz.isAgg173
  z51 := Tryz.sizeOf173
  v51 := Tryz.zeroValue173
  t119 := Tryz.underlying138
  a119 := Tryz.isAgg138
  z119 := Tryz.sizeOf138
  t141 := Tryz.underlying180
  a141 := Tryz.isAgg180
  z141 := Tryz.sizeOf180
  v141 := Tryz.zeroValue180
  t152 := Tryz.underlying176
  a152 := Tryz.isAgg176
  z152 := Tryz.sizeOf176
  v152 := Tryz.zeroValue176
  t154 := Tryz.underlying178
  a154 := Tryz.isAgg178
  z154 := Tryz.sizeOf178
  v154 := Tryz.zeroValue178
  t193 := Tryz.underlying204
  a193 := Tryz.isAgg204
  z193 := Tryz.sizeOf204
  v193 := Tryz.zeroValue204
  t194 := Tryz.underlying205
  a194 := Tryz.isAgg205
  z194 := Tryz.sizeOf205
  v194 := Tryz.zeroValue205
  t196 := Tryz.underlying207
  a196 := Tryz.isAgg207
  z196 := Tryz.sizeOf207
  v196 := Tryz.zeroValue207
  t198 := Tryz.underlying210
  a198 := Tryz.isAgg210
  z198 := Tryz.sizeOf210
  v198 := Tryz.zeroValue210
  t201 := Tryz.underlying213
  a201 := Tryz.isAgg213
  z201 := Tryz.sizeOf213
  v201 := Tryz.zeroValue213
  t226 := Tryz.underlying224
  a226 := Tryz.isAgg224
  z226 := Tryz.sizeOf224
  v226 := Tryz.zeroValue224
  t227 := Tryz.underlying225
  a227 := Tryz.isAgg225
  z227 := Tryz.sizeOf225
  v227 := Tryz.zeroValue225
  g0 := by kernel_rfl
  g6 := by kernel_rfl }
open Go.RowKit Go.Lib in
theorem Tryz.strings_Fields (s : ByteArray) (w : World) (hs : s.size < 4294967281) (hascii : ∀ (j : Nat) b, s.data.toList[j]? = some b → b.toNat < 128) (htab : Lib.TabIs Tryz.prog w "strings.asciiSpace" .u8 Lib.asciiSpaceTab) :
    Calls Tryz.prog 32 #[.string s] w fun e w' =>
      e = .returned (.slice (some ⟨w.heap.size, 0, none⟩) (Lib.fields s.data.toList).length (Lib.fields s.data.toList).length) ∧ w' = w.alloc (.cells ((Lib.fields s.data.toList).map fun l => Value.string ⟨l.toArray⟩).toArray 9) := Any.strings_Fields Tryz.lays157 (by kernel_rfl) (by kernel_rfl) s w hs hascii htab
end Go.Proofs
namespace Go.AM
open Go Go.Proofs Go.RowKit
theorem byte_cells {w : World} {bs : List Int} {bv : Value} (h : Rdw w (byE 1 bs) bv) : ∃ A cap, bv = .slice A bs.length cap ∧ ∀ i (hi : i < bs.length), ∃ b off, A = some ⟨b, off, none⟩ ∧ b < w.heap.size ∧ w.cell? ⟨b, off + i, none⟩ = some (.int .u8 bs[i]) := by
  obtain ⟨A, cap, rfl, h1, h2, h3⟩ := rdw_sl h (by decide)
  refine ⟨A, cap, by rw [List.length_map], fun i hi => ?_⟩
  rcases h3 with h3 | ⟨b, off, rfl, hb, h3⟩
  · rw [List.map_eq_nil_iff] at h3; subst h3; simp at hi
  · obtain ⟨g1, g2⟩ := h3 i (by rw [List.length_map]; exact hi)
    have e : (bs.map fun n => [u8d n])[i]'(by rw [List.length_map]; exact hi) = [u8d bs[i]] := by rw [List.getElem_map]
    obtain ⟨u, c0, r0⟩ := g2 0 (by rw [g1]; decide)
    simp only [e, List.getElem_cons_zero] at r0
    cases rdw_raw r0
    exact ⟨b, off, rfl, hb, by simpa using c0⟩
theorem format_k (p : List Pr) (hp : PrsOk p) (h0 : (faultR p [] false).2 = 0) (w : World) (pv : Value) (h : Rdw w (prs p) pv) :
    Calls Tryz.prog 13 #[.agg #[pv]] w fun e w' => e = .returned (.tuple #[.string (fmPs p), .int .i64 0]) ∧ w.grownBy w' none := by
  refine ((format_c p hp _ _).plain (RVs.cons (rvs_prs h) RVs.nil)).mono ?_
  rintro e w' ⟨u, G', rfl, hu, hg⟩
  rw [fmtR_txt h0, fmtR_err, h0] at hu
  cases hu with
  | @tup _ vs hl hv =>
    match vs, hl with
    | [a, b], _ =>
      have h0 := hv 0 (by simp) (by simp)
      have h1 := hv 1 (by simp) (by simp)
      simp only [List.getElem_cons_zero, List.getElem_cons_succ] at h0 h1
      cases h0 with | d h0 => cases h1 with | d h1 => cases h0; cases h1; exact ⟨rfl, hg⟩
theorem parse_k (s : ByteArray) (hs : s.size ≤ 200000000000000) (p : List Pr) (hp : parseR s = (p, 0, 0)) (w : World) :
    Calls Tryz.prog 15 #[.string s] w fun e w' => ∃ v, e = .returned (.tuple #[.agg #[v], .int .i64 0, .int .i64 0]) ∧ Rdw w' (prs p) v ∧ w.grownBy w' none := by
  refine ((parse_c s hs _ _).plain (RVs.cons (.d (.raw rfl)) RVs.nil)).mono ?_
  rintro e w' ⟨u, G', rfl, hu, hg⟩
  rw [hp] at hu
  cases hu with
  | @tup _ vs hl hv =>
    match vs, hl with
    | [a, b, c], _ =>
      have h0 := hv 0 (by simp) (by simp)
      have h1 := hv 1 (by simp) (by simp)
      have h2 := hv 2 (by simp) (by simp)
      simp only [List.getElem_cons_zero, List.getElem_cons_succ] at h0 h1 h2
      obtain ⟨v, rfl, hv0⟩ := agg1 h0
      cases h1 with | d h1 => cases h2 with | d h2 => cases h1; cases h2; exact ⟨v, rfl, hv0, hg⟩
theorem same_k (p : List Pr) (hp : PrsOk p) (w : World) (pv qv : Value) (h : Rdw w (prs p) pv) (k : Rdw w (prs p) qv) :
    Calls Tryz.prog 16 #[.agg #[pv], .agg #[qv]] w fun e w' => e = .returned (.bool true) ∧ w.grownBy w' none := by
  refine ((same_c p hp.len hp.bd _ _).plain (RVs.cons (rvs_prs h) (RVs.cons (rvs_prs k) RVs.nil))).mono ?_
  rintro e w' ⟨u, G', rfl, hu, hg⟩
  cases hu with | d hu => cases hu; exact ⟨rfl, hg⟩
theorem blT_size (bs : List Int) : ∀ (l : List ByteArray) (i : Nat), (∀ w ∈ l, w.size ≤ 20) → (blT bs i l).size ≤ 27 * l.length
  | [], i, _ => by rw [blT]; show 0 ≤ _; omega
  | w :: r, i, h => by
    have h1 := h w (by simp)
    have h2 := blT_size bs r (i + 1) fun x hx => h x (by simp [hx])
    have h3 : (blankB (bkAt bs i)).size ≤ 7 := by
      unfold blankB
      repeat' split
      all_goals decide
    rw [blT, ByteArray.size_append, ByteArray.size_append, List.length_cons]
    omega
theorem wd_size {w : Wk} (h : wdB w = true) : w.2.size ≤ 20 := by
  obtain ⟨k, w⟩ := w
  simp only [wdB, Bool.or_eq_true, Bool.and_eq_true, decide_eq_true_eq] at h
  rcases h with ⟨⟨rfl, hn⟩ | ⟨rfl, hd⟩⟩ | ⟨rfl, hg⟩
  · simp only [nameB, Bool.and_eq_true, decide_eq_true_eq] at hn
    exact hn.1.1.2
  · simp only [digW, Bool.and_eq_true, decide_eq_true_eq] at hd
    show w.size ≤ 20
    omega
  · rcases hg with (rfl | rfl) | rfl <;> decide
end Go.AM
namespace Go.Proofs.YtedpnmlgbjcpcaaGreatDoor.blanks
open Go Go.Proofs Go.RowKit Go.AM Go.Maps Go.Sort Go.Shelf
theorem isb_grown {T e : TypeId} {B b : Nat} {bs : List Value} {w w' : World} (h : Lib.IsBuilder T e B b bs w) (hg : w.grownBy w' none) : Lib.IsBuilder T e B b bs w' := by
  have key : ∀ p, Lib.BuilderAt T e B b p bs w → Lib.BuilderAt T e B b p bs w' := fun p ⟨h1, v, h2, h3, h4⟩ =>
    ⟨h1, v, (hg.block b (Array.getElem?_eq_some_iff.1 h2).1 (by simp)).trans h2, h3.kept hg (by cases hv : v.ownBlock <;> simp), h4⟩
  exact h.imp (key _) (key _)
theorem rdb_gu {w w' : World} {b : Nat} {x : D} {v : Value} (h : Rdb w b x v) (hg : Gu b w w') : Rdb w' b x v := h.mono fun u _ h1 hc => ⟨h1, hg.cell hc (.inl h1)⟩
theorem rdb_gr {w w' : World} {b : Nat} {x : D} {v : Value} (h : Rdb w b x v) (hg : w.grownBy w' none) : Rdb w' b x v := h.mono fun u _ h1 hc => ⟨h1, hg.cell hc (by simp)⟩
def Post (w : World) (e : Ending) (w' : World) : Prop := e = .returned (.bool true) ∧ Below w.heap.size w w'
theorem bel {w w' : World} (h : w.grownBy w' none) : Below w.heap.size w w' := ⟨h.os, h.tape, h.output, h.size, fun k hk => h.block k hk (by simp)⟩
theorem below_gu {w W v : World} {b : Nat} (h : w.grownBy W none) (hb : w.heap.size ≤ b) (g : Gu b W v) : Below w.heap.size w v :=
  ⟨g.os.trans h.os, g.tape.trans h.tape, g.output.trans h.output, Nat.le_trans h.size g.size, fun k hk => (g.block k (Nat.lt_of_lt_of_le hk h.size) (.inl (Nat.lt_of_lt_of_le hk hb))).trans (h.block k hk (by simp))⟩
theorem below_more {w v x y : World} {b : Nat} (h : Below w.heap.size w v) (hb : w.heap.size ≤ b) (g : Below b v x) (k : x.grownBy y none) : Below w.heap.size w y :=
  ⟨k.os.trans (g.os.trans h.os), k.tape.trans (g.tape.trans h.tape), k.output.trans (g.output.trans h.output), Nat.le_trans h.size (Nat.le_trans g.size k.size), fun i hi =>
    (k.block i (Nat.lt_of_lt_of_le hi (Nat.le_trans h.size g.size)) (by simp)).trans ((g.block i (Nat.lt_of_lt_of_le hi hb)).trans (h.block i hi))⟩
set_option maxHeartbeats 1000000 in
set_option maxRecDepth 100000 in
theorem long (cv bv : Value) (A : Option Addr) (n cap : Nat) (hb : 50 < n) (w : World) :
    Calls Tryz.prog 10 #[cv, .slice A n cap] w (Post w) := by
  have hb' : (50 : Int) < (n : Int) := by omega
  go_enter Tryz.func10, Tryz.ntmps10
  go_wp2_with fail
  go_at_call 11
  refine (awake_k _).mono ?_
  rintro e w1 ⟨rfl, hg1⟩
  go_wp2_with fail
  go_at_call 11
  refine (awake_k _).mono ?_
  rintro e w2 ⟨rfl, hg2⟩
  go_wp2
  go_ret
  exact ⟨rfl, bel (Gb.trans hg1 hg2)⟩
set_option maxHeartbeats 3000000 in
set_option maxRecDepth 100000 in
theorem short (codes : List (List Int)) (hc : CodesOk codes) (bs : List Int) (hb8 : B8s bs) (hb : bs.length ≤ 50) (cv : Value) (A : Option Addr) (cap : Nat) (w : World) (hcv : Rdw w (codesD codes) cv)
    (hbc : ∀ i (hi : i < bs.length), ∃ b off, A = some ⟨b, off, none⟩ ∧ b < w.heap.size ∧ w.cell? ⟨b, off + i, none⟩ = some (.int .u8 bs[i]))
    (htab : Aside (Lib.TabBelow Tryz.prog w.heap.size w "strings.asciiSpace" .u8 Lib.asciiSpaceTab)) :
    Calls Tryz.prog 10 #[cv, .slice A bs.length cap] w (Post w) := by
  have hb' : ¬ (50 : Int) < (bs.length : Int) := by omega
  obtain ⟨m1, m4⟩ := mdN_rng codes
  obtain ⟨ok1, f1, g1⟩ := md46_ok codes m1 (show mdN codes ≤ 10 by omega)
  have hsz := md46_size codes rules3 (mdN codes)
  have hlen := md46_len codes rules3 (mdN codes)
  have hmk := fun (w : World) (cv v : Value) => made_k codes hc w cv v
  generalize md46 codes rules3 (mdN codes) = p at *
  obtain ⟨hasc, hfl⟩ := fmt_fields f1
  have hback := blanks_back f1 (by omega) bs
  have hfmz := fmtR_size p
  rw [fmtR_txt f1] at hfmz
  have hws : ∀ x ∈ (wsPs p).map Prod.snd, x.size ≤ 20 := fun x hx => by
    obtain ⟨y, hy, rfl⟩ := List.mem_map.1 hx
    exact wd_size (lay_wd (put_prsF p (fault_fn f1).1).all y hy)
  have hwl := wsPs_len p
  have hfl2 : Lib.fields (fmPs p).data.toList = ((wsPs p).map Prod.snd).map fun s => s.data.toList := by rw [hfl, List.map_map]; rfl
  have hwl2 : ((wsPs p).map Prod.snd).length ≤ 3700 := by rw [List.length_map]; omega
  clear hwl hsz hlen m1 m4
  generalize (wsPs p).map Prod.snd = ws at *
  have hfmt := fun (w : World) (pv : Value) => format_k p ok1 f1 w pv
  have hsame := fun (w : World) (pv qv : Value) => same_k p ok1 w pv qv
  generalize fmPs p = T at *
  go_enter Tryz.func10, Tryz.ntmps10
  go_wp2_with fail
  go_at_call 11
  refine (awake_k _).mono ?_
  rintro e w1 ⟨rfl, hg1⟩
  go_wp2_with fail
  go_at_call 27
  refine (rules_k _).mono ?_
  rintro e w2 ⟨rv, rfl, hrv, hg2⟩
  go_wp2_with fail
  go_at_call 26
  refine (hmk _ _ _ (rdw_grown hg2 (by simp) (rdw_grown hg1 (by simp) hcv)) hrv).mono ?_
  rintro e w3 ⟨pv, rfl, hpv, hg3⟩
  obtain ⟨Ap, capp, rfl, _⟩ := proc_cells hpv
  go_wp2_with fail
  go_at_call 13
  refine (hfmt _ _ (rdw_grown (World.grownBy_alloc w3 _ none) (by simp) hpv)).mono ?_
  rintro e w4 ⟨rfl, hg4⟩
  go_wp2_with fail
  have hg34 : w3.grownBy w4 none := Gb.trans (World.grownBy_alloc w3 _ none) hg4
  have hgw4 : w.grownBy w4 none := Gb.trans hg1 (Gb.trans hg2 (Gb.trans hg3 hg34))
  have hpc4 : w4.cell? ⟨w3.heap.size, 0, none⟩ = some (.slice Ap p.length capp) := hg4.cell (by simp) (by simp)
  have hs34 := hg34.size
  have hlt34 : w3.heap.size < w4.heap.size := by have := hg4.size; simp at this; omega
  have hpb4 : Rdb w4 w4.heap.size (prs p) (.slice Ap p.length capp) := Rdb.of (rdw_grown hg34 (by simp) hpv)
  have hg45 := World.grownBy_alloc w4 (.cells #[.pointer none, .slice none 0 0] 63) none
  have hB5 := Lib.fresh_isBuilder 63 5 w4
  have htab5 := htab _ (bel (Gb.trans hgw4 hg45))
  have hF := Tryz.strings_Fields T (w4.alloc (.cells #[.pointer none, .slice none 0 0] 63)) (by omega) (fun j b hj => hasc b (List.mem_of_getElem? hj)) htab5
  rw [hfl2, List.length_map, List.map_map] at hF
  have hmm : (ws.map ((fun l : List UInt8 => Value.string ⟨l.toArray⟩) ∘ fun s : ByteArray => s.data.toList)) = ws.map Value.string := List.map_congr_left fun s _ => by simp
  rw [hmm] at hF
  have hsz5 : (w4.alloc (.cells #[.pointer none, .slice none 0 0] 63)).heap.size = w4.heap.size + 1 := by simp
  rw [hsz5] at hF
  go_at_call 32
  refine hF.mono ?_
  clear hF
  rintro e w6 ⟨rfl, rfl⟩
  have hg46 := Gb.trans hg45 (World.grownBy_alloc (w4.alloc (.cells #[.pointer none, .slice none 0 0] 63)) (.cells (ws.map Value.string).toArray 9) none)
  have hB6 := isb_grown hB5 (World.grownBy_alloc (w4.alloc (.cells #[.pointer none, .slice none 0 0] 63)) (.cells (ws.map Value.string).toArray 9) none)
  have hF6 : ((w4.alloc (.cells #[.pointer none, .slice none 0 0] 63)).alloc (.cells (ws.map Value.string).toArray 9)).heap[w4.heap.size + 1]? = some (.cells (ws.map Value.string).toArray 9 (0, 0)) := by
    have := alloc_at (w4.alloc (.cells #[.pointer none, .slice none 0 0] 63)) (.cells (ws.map Value.string).toArray 9)
    rw [hsz5] at this
    exact this
  generalize (w4.alloc (.cells #[.pointer none, .slice none 0 0] 63)).alloc (.cells (ws.map Value.string).toArray 9) = W at *
  have hgwW := Gb.trans hgw4 hg46
  have hpcW : W.cell? ⟨w3.heap.size, 0, none⟩ = some (.slice Ap p.length capp) := hg46.cell hpc4 (by simp)
  have hpbW := rdb_gr hpb4 hg46
  have hbW : w.heap.size ≤ w4.heap.size := hgw4.size
  clear htab hg45 hB5 htab5 hmm hg46 hpb4 hpc4 hg4 hg34 hs34 hpv hrv hg1 hg2 hg3 hfmt hmk hasc hfl hfl2
  go_wp2_with fail
  clear hgw4
  generalize hb0 : w4.heap.size = b at *
  clear hb0
  have hsz5 : b + 1 < W.heap.size := (Array.getElem?_eq_some_iff.1 hF6).1
  go_loopw [37] (fun v wr => ∃ i : Nat, i ≤ ws.length ∧ v = .int .i64 i ∧ Lib.IsBuilder 63 5 b b (Lib.byteCells (blT bs 0 (ws.take i)).data.toList) wr ∧ Gu b W wr) (fun v _ => ws.length - (intOf v).toNat)
  case atStart => exact ⟨0, Nat.zero_le _, rfl, by simpa [blT, Lib.byteCells] using hB6, Gu.refl _ _⟩
  case round =>
    obtain ⟨i, hi, rfl, hBr, hGr⟩ := hrel
    have hszr := hGr.size
    have hbl := blT_size bs (ws.take i) 0 fun x hx => hws x (List.mem_of_mem_take hx)
    rw [List.length_take] at hbl
    by_cases hlt : i < ws.length
    · have hlt' : (i : Int) < ws.length := by omega
      have hFr : wr.heap[b + 1]? = some (.cells (ws.map Value.string).toArray 9 (0, 0)) := (hGr.block (b + 1) hsz5 (.inr ⟨by omega, fun cur f e => by rw [hF6] at e; injection e with e; injection e with _ e _; exact absurd e (by decide)⟩)).trans hF6
      have hcell : wr.cell? ⟨b + 1, i, none⟩ = some (.string ws[i]) := by simp [World.cell?, hFr, hlt]
      have hwz := hws ws[i] (List.getElem_mem hlt)
      have htk := blT_take bs hlt
      have hwr1 := write_k b (Lib.byteCells (blT bs 0 (ws.take i)).data.toList) ws[i] wr hBr (by rw [Lib.byteCells_length, sz_list]; omega)
      generalize ws[i] = s1 at *
      go_wp2_with fail
      go_at_call 33
      refine hwr1.mono ?_
      clear hwr1
      rintro e w7 ⟨rfl, hB7, hG7⟩
      have hGu7 := hGr.trans hG7
      by_cases h0 : bs.length = 0
      · have hbk : bkAt bs i = 0 := by rw [bkAt, if_pos h0]
        rw [hbk] at htk
        have hn0 : ¬ (0 : Int) < (bs.length : Int) := by omega
        clear h0
        go_wp2_with fail
        have hAl := World.grownBy_alloc w7 (.cells #[.string ⟨#[32]⟩, .string ⟨#[10]⟩, .string ⟨#[9]⟩, .string ⟨#[32, 32]⟩, .string ⟨#[32, 35, 32, 97, 32, 125, 10]⟩] 9) none
        have hwr2 := write_k b _ ⟨#[32]⟩ (w7.alloc (.cells #[.string ⟨#[32]⟩, .string ⟨#[10]⟩, .string ⟨#[9]⟩, .string ⟨#[32, 32]⟩, .string ⟨#[32, 35, 32, 97, 32, 125, 10]⟩] 9)) (isb_grown hB7 hAl) (by rw [List.length_append, Lib.byteCells_length, Lib.strCells_length, sz_list]; show _ + 1 ≤ _; omega)
        go_at_call 33
        refine hwr2.mono ?_
        clear hwr2
        rintro e w8 ⟨rfl, hB8, hG8⟩
        have hGfin := hGu7.trans ((Gu.grown hAl).trans hG8)
        have hBfin : Lib.IsBuilder 63 5 b b (Lib.byteCells (blT bs 0 (ws.take (i + 1))).data.toList) w8 := by
          rw [htk, ba_app_list, ba_app_list, Lib.byteCells_append, Lib.byteCells_append, ← List.append_assoc]
          exact hB8
        clear hB8 hB7 hG8 hAl hG7 hGu7
        go_wp2
        exact ⟨⟨i + 1, by omega, by simp, hBfin, hGfin⟩, by simp [intOf]; omega⟩
      · obtain ⟨j, hj⟩ : ∃ j, j = i % bs.length := ⟨_, rfl⟩
        have hjl : j < bs.length := by rw [hj]; exact Nat.mod_lt _ (by omega)
        have hjl' : (j : Int) < (bs.length : Int) := by omega
        have hij : (i : Int).tmod (bs.length : Int) = (j : Int) := by rw [Int.tmod_eq_emod_of_nonneg (by omega), hj, Int.natCast_emod]
        obtain ⟨b0, off, rfl, hb00, hc0⟩ := hbc j hjl
        obtain ⟨cg0, cg1⟩ := hb8 _ (List.getElem_mem hjl)
        have hc7 : w7.cell? ⟨b0, off + j, none⟩ = some (.int .u8 bs[j]) := hGu7.cell (hgwW.cell hc0 (by simp)) (.inl (by show b0 < b; omega))
        have hbk : bkAt bs i = bs[j].toNat % 5 := by rw [bkAt, if_neg h0, ← hj, List.getD_eq_getElem?_getD, List.getElem?_eq_getElem hjl]; rfl
        rw [hbk] at htk
        have hn0 : (0 : Int) < (bs.length : Int) := by omega
        have hne : ¬ bs = [] := fun e => h0 (by rw [e]; rfl)
        generalize bs[j] = c at *
        rw [hj] at hc7 hjl'
        have hjl2 : i % bs.length < bs.length := by rw [← hj]; exact hjl
        clear hj hij hjl
        have hcw : IntKind.i64.wrap c = c := wrap_in (by omega) (by omega)
        obtain ⟨m, hm⟩ : ∃ m, m = c.toNat % 5 := ⟨_, rfl⟩
        have hc5 : c.tmod 5 = (m : Int) := by rw [Int.tmod_eq_emod_of_nonneg (by omega)]; omega
        rw [← hm] at htk
        have hm5 : m = 0 ∨ m = 1 ∨ m = 2 ∨ m = 3 ∨ m = 4 := by omega
        clear hbk hm hc0
        rcases hm5 with rfl | rfl | rfl | rfl | rfl
        · go_wp2_with fail
          have hAl := World.grownBy_alloc w7 (.cells #[.string ⟨#[32]⟩, .string ⟨#[10]⟩, .string ⟨#[9]⟩, .string ⟨#[32, 32]⟩, .string ⟨#[32, 35, 32, 97, 32, 125, 10]⟩] 9) none
          have hwr2 := write_k b _ ⟨#[32]⟩ (w7.alloc (.cells #[.string ⟨#[32]⟩, .string ⟨#[10]⟩, .string ⟨#[9]⟩, .string ⟨#[32, 32]⟩, .string ⟨#[32, 35, 32, 97, 32, 125, 10]⟩] 9)) (isb_grown hB7 hAl) (by rw [List.length_append, Lib.byteCells_length, Lib.strCells_length, sz_list]; show _ + 1 ≤ _; omega)
          go_at_call 33
          refine hwr2.mono ?_
          clear hwr2
          rintro e w8 ⟨rfl, hB8, hG8⟩
          have hGfin := hGu7.trans ((Gu.grown hAl).trans hG8)
          have hBfin : Lib.IsBuilder 63 5 b b (Lib.byteCells (blT bs 0 (ws.take (i + 1))).data.toList) w8 := by
            rw [htk, ba_app_list, ba_app_list, Lib.byteCells_append, Lib.byteCells_append, ← List.append_assoc]
            exact hB8
          clear hB8 hB7 hG8 hAl hG7 hGu7
          go_wp2
          exact ⟨⟨i + 1, by omega, by simp, hBfin, hGfin⟩, by simp [intOf]; omega⟩
        · go_wp2_with fail
          have hAl := World.grownBy_alloc w7 (.cells #[.string ⟨#[32]⟩, .string ⟨#[10]⟩, .string ⟨#[9]⟩, .string ⟨#[32, 32]⟩, .string ⟨#[32, 35, 32, 97, 32, 125, 10]⟩] 9) none
          have hwr2 := write_k b _ ⟨#[10]⟩ (w7.alloc (.cells #[.string ⟨#[32]⟩, .string ⟨#[10]⟩, .string ⟨#[9]⟩, .string ⟨#[32, 32]⟩, .string ⟨#[32, 35, 32, 97, 32, 125, 10]⟩] 9)) (isb_grown hB7 hAl) (by rw [List.length_append, Lib.byteCells_length, Lib.strCells_length, sz_list]; show _ + 1 ≤ _; omega)
          go_at_call 33
          refine hwr2.mono ?_
          clear hwr2
          rintro e w8 ⟨rfl, hB8, hG8⟩
          have hGfin := hGu7.trans ((Gu.grown hAl).trans hG8)
          have hBfin : Lib.IsBuilder 63 5 b b (Lib.byteCells (blT bs 0 (ws.take (i + 1))).data.toList) w8 := by
            rw [htk, ba_app_list, ba_app_list, Lib.byteCells_append, Lib.byteCells_append, ← List.append_assoc]
            exact hB8
          clear hB8 hB7 hG8 hAl hG7 hGu7
          go_wp2
          exact ⟨⟨i + 1, by omega, by simp, hBfin, hGfin⟩, by simp [intOf]; omega⟩
        · go_wp2_with fail
          have hAl := World.grownBy_alloc w7 (.cells #[.string ⟨#[32]⟩, .string ⟨#[10]⟩, .string ⟨#[9]⟩, .string ⟨#[32, 32]⟩, .string ⟨#[32, 35, 32, 97, 32, 125, 10]⟩] 9) none
          have hwr2 := write_k b _ ⟨#[9]⟩ (w7.alloc (.cells #[.string ⟨#[32]⟩, .string ⟨#[10]⟩, .string ⟨#[9]⟩, .string ⟨#[32, 32]⟩, .string ⟨#[32, 35, 32, 97, 32, 125, 10]⟩] 9)) (isb_grown hB7 hAl) (by rw [List.length_append, Lib.byteCells_length, Lib.strCells_length, sz_list]; show _ + 1 ≤ _; omega)
          go_at_call 33
          refine hwr2.mono ?_
          clear hwr2
          rintro e w8 ⟨rfl, hB8, hG8⟩
          have hGfin := hGu7.trans ((Gu.grown hAl).trans hG8)
          have hBfin : Lib.IsBuilder 63 5 b b (Lib.byteCells (blT bs 0 (ws.take (i + 1))).data.toList) w8 := by
            rw [htk, ba_app_list, ba_app_list, Lib.byteCells_append, Lib.byteCells_append, ← List.append_assoc]
            exact hB8
          clear hB8 hB7 hG8 hAl hG7 hGu7
          go_wp2
          exact ⟨⟨i + 1, by omega, by simp, hBfin, hGfin⟩, by simp [intOf]; omega⟩
        · go_wp2_with fail
          have hAl := World.grownBy_alloc w7 (.cells #[.string ⟨#[32]⟩, .string ⟨#[10]⟩, .string ⟨#[9]⟩, .string ⟨#[32, 32]⟩, .string ⟨#[32, 35, 32, 97, 32, 125, 10]⟩] 9) none
          have hwr2 := write_k b _ ⟨#[32, 32]⟩ (w7.alloc (.cells #[.string ⟨#[32]⟩, .string ⟨#[10]⟩, .string ⟨#[9]⟩, .string ⟨#[32, 32]⟩, .string ⟨#[32, 35, 32, 97, 32, 125, 10]⟩] 9)) (isb_grown hB7 hAl) (by rw [List.length_append, Lib.byteCells_length, Lib.strCells_length, sz_list]; show _ + 2 ≤ _; omega)
          go_at_call 33
          refine hwr2.mono ?_
          clear hwr2
          rintro e w8 ⟨rfl, hB8, hG8⟩
          have hGfin := hGu7.trans ((Gu.grown hAl).trans hG8)
          have hBfin : Lib.IsBuilder 63 5 b b (Lib.byteCells (blT bs 0 (ws.take (i + 1))).data.toList) w8 := by
            rw [htk, ba_app_list, ba_app_list, Lib.byteCells_append, Lib.byteCells_append, ← List.append_assoc]
            exact hB8
          clear hB8 hB7 hG8 hAl hG7 hGu7
          go_wp2
          exact ⟨⟨i + 1, by omega, by simp, hBfin, hGfin⟩, by simp [intOf]; omega⟩
        · go_wp2_with fail
          have hAl := World.grownBy_alloc w7 (.cells #[.string ⟨#[32]⟩, .string ⟨#[10]⟩, .string ⟨#[9]⟩, .string ⟨#[32, 32]⟩, .string ⟨#[32, 35, 32, 97, 32, 125, 10]⟩] 9) none
          have hwr2 := write_k b _ ⟨#[32, 35, 32, 97, 32, 125, 10]⟩ (w7.alloc (.cells #[.string ⟨#[32]⟩, .string ⟨#[10]⟩, .string ⟨#[9]⟩, .string ⟨#[32, 32]⟩, .string ⟨#[32, 35, 32, 97, 32, 125, 10]⟩] 9)) (isb_grown hB7 hAl) (by rw [List.length_append, Lib.byteCells_length, Lib.strCells_length, sz_list]; show _ + 7 ≤ _; omega)
          go_at_call 33
          refine hwr2.mono ?_
          clear hwr2
          rintro e w8 ⟨rfl, hB8, hG8⟩
          have hGfin := hGu7.trans ((Gu.grown hAl).trans hG8)
          have hBfin : Lib.IsBuilder 63 5 b b (Lib.byteCells (blT bs 0 (ws.take (i + 1))).data.toList) w8 := by
            rw [htk, ba_app_list, ba_app_list, Lib.byteCells_append, Lib.byteCells_append, ← List.append_assoc]
            exact hB8
          clear hB8 hB7 hG8 hAl hG7 hGu7
          go_wp2
          exact ⟨⟨i + 1, by omega, by simp, hBfin, hGfin⟩, by simp [intOf]; omega⟩
    · obtain rfl : i = ws.length := by omega
      rw [List.take_length] at hBr
      have hge : ¬ (ws.length : Int) < ws.length := by omega
      have hpr : wr.cell? ⟨w3.heap.size, 0, none⟩ = some (.slice Ap p.length capp) := hGr.cell hpcW (.inl hlt34)
      have hpbr := rdb_gu hpbW hGr
      rw [List.take_of_length_le (Nat.le_refl _)] at hbl
      clear hbc hF6 hB6 hpcW hpbW
      have hlen1 := Tryz.Builder_Len b b _ wr hBr
      rw [Lib.byteCells_length, sz_list] at hlen1
      go_wp2_with fail
      go_at_call 34
      refine hlen1.mono ?_
      clear hlen1
      rintro e w9 ⟨rfl, rfl⟩
      by_cases hbig : 20000 < (blT bs 0 ws).size
      · have hbig' : (20000 : Int) < ((blT bs 0 ws).size : Int) := by omega
        go_wp2
        go_ret
        exact ⟨rfl, below_gu hgwW hbW hGr⟩
      · have hbig' : ¬ (20000 : Int) < ((blT bs 0 ws).size : Int) := by omega
        have hps := parse_k (blT bs 0 ws) (by omega) p (hback (by omega))
        have hst := Tryz.Builder_String_any b b (blT bs 0 ws).data.toList w9 hBr (by omega)
        have hse : (⟨(blT bs 0 ws).data.toList.toArray⟩ : ByteArray) = blT bs 0 ws := by simp
        rw [hse] at hst
        clear hse hback hBr
        go_wp2_with fail
        go_at_call 35
        refine hst.mono ?_
        clear hst
        rintro e w10 ⟨rfl, hb10⟩
        have hp10 : w10.cell? ⟨w3.heap.size, 0, none⟩ = some (.slice Ap p.length capp) := (hb10.cell (by exact hlt34)).trans hpr
        have hpb10 : Rdb w10 b (prs p) (.slice Ap p.length capp) := hpbr.mono fun u _ h1 hc => ⟨h1, (hb10.cell (by exact h1)).trans hc⟩
        go_wp2_with fail
        go_at_call 15
        refine (hps w10).mono ?_
        clear hps
        rintro e w11 ⟨qv, rfl, hq, hg11⟩
        have hp11 : w11.cell? ⟨w3.heap.size, 0, none⟩ = some (.slice Ap p.length capp) := hg11.cell hp10 (by simp)
        have hpb11 := rdb_gr hpb10 hg11
        obtain ⟨Aq, capq, rfl, _⟩ := proc_cells hq
        have hg12 := World.grownBy_alloc w11 (.cells #[.slice Aq p.length capq] 24) none
        have hp12 := hg12.cell hp11 (by simp)
        have hsm := hsame (w11.alloc (.cells #[.slice Aq p.length capq] 24)) _ _ (rdb_gr hpb11 hg12).rdw (rdw_grown hg12 (by simp) hq)
        go_wp2_with fail
        go_at_call 16
        refine hsm.mono ?_
        rintro e w13 ⟨rfl, hg13⟩
        go_wp2
        go_ret
        exact ⟨rfl, below_more (below_gu hgwW hbW hGr) hbW hb10 (Gb.trans hg11 (Gb.trans hg12 hg13))⟩
end Go.Proofs.YtedpnmlgbjcpcaaGreatDoor.blanks
namespace Go.AM
open Go Go.Proofs Go.ChangeShapes
theorem u8_in {n : Int} (h : (Lit.int .u8 n).wf = true) : 0 ≤ n ∧ n < 256 := by
  simp [Lit.wf, IntKind.min, IntKind.max, IntKind.signed, IntKind.bits] at h
  omega
theorem by_u8 : Tryz.prog.bytesOf 5 = 1 := by kernel_rfl
theorem by_u8s : Tryz.prog.bytesOf 60 = 24 := by kernel_rfl
set_option maxRecDepth 100000 in
theorem arg_u8ss {ps : Array TypeId} {args : Array Value} {W : World} {base base' : Nat} {sp : Nat → Bool} {held : Bool} {H : Type} {enc : TypeId × Value → H} (hval : ∀ (j : Nat) t v, ps[j]? = some t → args[j]? = some v → Value.okWide Tryz.prog W .any base t v)
    (j : Nat) (v : Value) (hp : ps[j]? = some 49) (ha : args[j]? = some v) {d : DataW H} {p : List MemPlace} (h : DataW.Trod enc Tryz.prog W base' sp held 49 v d p) (hli : Light Tryz.prog 49 d) : ∃ l : List (List Int), CodesOk l ∧ RV G0 W (.d (codesD l)) v := by
  refine Exists.elim (arg_cell hval j 49 v hp ha rdU8ss (fun s => codesD s) aggT_49 (fun _ => rfl) h hli) fun s hs => ⟨s, ?_, hs.2⟩
  have h1 : (∀ x ∈ s, (∀ y ∈ x, (Lit.int .u8 y).wf = true) ∧ x.length * Tryz.prog.bytesOf 5 ≤ reachBytes) ∧ s.length * Tryz.prog.bytesOf 60 ≤ reachBytes := hs.1
  rw [by_u8s, by_u8, rch] at h1
  exact ⟨by omega, fun c hc => ⟨by have := (h1.1 c hc).2; omega, fun y hy => u8_in ((h1.1 c hc).1 y hy)⟩⟩
set_option maxRecDepth 100000 in
theorem arg_u8s {ps : Array TypeId} {args : Array Value} {W : World} {base base' : Nat} {sp : Nat → Bool} {held : Bool} {H : Type} {enc : TypeId × Value → H} (hval : ∀ (j : Nat) t v, ps[j]? = some t → args[j]? = some v → Value.okWide Tryz.prog W .any base t v)
    (j : Nat) (v : Value) (hp : ps[j]? = some 60) (ha : args[j]? = some v) {d : DataW H} {p : List MemPlace} (h : DataW.Trod enc Tryz.prog W base' sp held 60 v d p) (hli : Light Tryz.prog 60 d) : ∃ l : List Int, (l.length ≤ 200000000000000 ∧ B8s l) ∧ RV G0 W (.d (byE 1 l)) v := by
  refine Exists.elim (arg_cell hval j 60 v hp ha rdU8s (fun s => byE 1 s) aggT_60 (fun _ => rfl) h hli) fun s hs => ⟨s, ?_, hs.2⟩
  have h1 : (∀ y ∈ s, (Lit.int .u8 y).wf = true) ∧ s.length * Tryz.prog.bytesOf 5 ≤ reachBytes := hs.1
  rw [by_u8, rch] at h1
  exact ⟨by omega, fun y hy => u8_in (h1.1 y hy)⟩
end Go.AM
namespace Go.AM
open Go Go.Proofs Go.RowKit Go.ChangeShapes
variable {P : Program}
theorem law_at46 {f : FuncId} {fn : Func} {s : ChangeSpec} {H : Type} {enc : TypeId × Value → H} {W : World} {args : Array Value} {ds : List (DataW H)} {before : List MemPlace}
    (hl : laidOutB P = true) (hm : mapsRowed P = true) (hz : ((List.range P.types.size).all fun t => match P.underlying t with | some (.slice e) => decide (0 < P.cellsOf e) | _ => true) = true)
    (hpar : fn.params.all (· < P.types.size) = true) {tb : TypeId} (hres : fn.resultTypes = #[tb]) (hb : P.underlying tb = some .bool)
    (hvars : s.vars = []) (hfn : s.fn H ds = { results := [.lit (.bool true)], args := ds })
    (hW : DataW.Whole enc P fn.params.toList s.vars false W args.toList ds [] before) (hcall : Calls P f args W fun e W' => e = .returned (.bool true) ∧ Below W.heap.size W W') :
    Calls P f args W fun e W' => ∃ v, e = .returned v ∧ s.post enc P fn false true false false W args v W' := by
  refine hcall.mono ?_
  rintro e W' ⟨rfl, hbl⟩
  have hle := Bw.le (relM_start W) hbl
  refine ⟨_, rfl, ?_⟩
  have hlt := hW.lt
  have hWW := hW
  obtain ⟨p, q, hA, hV, rfl, hfz, hnd⟩ := hW
  rw [hvars] at hV
  obtain ⟨_, rfl⟩ := trodVars_none hV
  simp only [List.append_nil] at hlt hfz hWW ⊢
  have hT : ∀ t ∈ fn.params.toList, t < P.types.size := fun t ht => by
    have := Array.all_eq_true_iff_forall_mem.1 hpar t (by simpa using ht)
    simpa using this
  have hsz : ∀ {t e : TypeId}, t < P.types.size → P.underlying t = some (.slice e) → 0 < P.cellsOf e := by
    intro t e ht hu
    have := List.all_eq_true.1 hz t (List.mem_range.2 ht)
    rw [hu] at this
    simpa using this
  have hargs : ∀ sp : Nat → Bool, (∀ x ∈ p, sp x.block = true) → DataW.TrodAll enc P W' 0 sp true fn.params.toList args.toList ds p := fun sp hsp =>
    trodAll_stays (kids_rows hl hm) hsz hT hA (fun x hx => le_same hle (hlt x hx)) hsp
  have hnat : (Value.bool true).resultList fn.resultTypes.size = [.bool true] := by rw [hres]; rfl
  have hresb : ∀ (b : Nat) (sp : Nat → Bool) (hd : Bool), DataW.TrodAll enc P W' b sp hd fn.resultTypes.toList ((Value.bool true).resultList fn.resultTypes.size) [.lit (.bool true)] [] := fun b sp hd => by
    rw [hnat, hres]
    exact trodAll_mk1 ⟨1, by simp [DataW.trod, hb, Value.cells]⟩
  have hfn' : s.fn H (ds ++ []) = { results := [.lit (.bool true)], args := ds } := by rw [List.append_nil]; exact hfn
  refine ⟨ds, [], p, [], p, [], hWW, ?_, ?_, ?_, World.keptBut_mono (fun _ f => f.elim) (le_kept hle fun _ => False), fun h => by cases h⟩
  · rw [hfn']; exact hresb _ _ _
  · rw [hfn']; exact hargs _ fun x hx => by simpa using hlt x hx
  · rw [hfn', hvars]; exact rfl
theorem lawBlanks_k (codes : List (List Int)) (hc : CodesOk codes) (bs : List Int) (hb : bs.length ≤ 200000000000000 ∧ B8s bs) (W : World) (v0 v1 : Value) (h0 : RV G0 W (.d (codesD codes)) v0) (h1 : RV G0 W (.d (byE 1 bs)) v1)
    (htab : Lib.TabIs Tryz.prog W "strings.asciiSpace" .u8 Lib.asciiSpaceTab) :
    Calls Tryz.prog 10 #[v0, v1] W fun e W' => e = .returned (.bool true) ∧ Below W.heap.size W W' := by
  obtain ⟨A, cap, rfl, hcell⟩ := byte_cells (rv_d h1)
  by_cases hl : bs.length ≤ 50
  · exact YtedpnmlgbjcpcaaGreatDoor.blanks.short codes hc bs hb.2 hl v0 A cap W (rv_d h0) hcell (Lib.tabBelow_of_tabIs htab)
  · exact YtedpnmlgbjcpcaaGreatDoor.blanks.long v0 v0 A bs.length cap (by omega) W
end Go.AM
