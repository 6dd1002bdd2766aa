/-
  Parts of the proof, as merged from many texts: a machine over data, what the functions compute, plain laws.
-/
import Derived.Test.YtedpnmlgbjcpcaaGreatDoorMQ6
set_option linter.unusedSimpArgs false
set_option linter.unusedVariables false
namespace Go.AM
open Go Go.Proofs
theorem tokens1_c (c : Int) (tok : Nat → Bool) (nt : Nat) : DCall Tryz.prog 80 [Ub c] tok nt (B (nlB c)) tok nt := by
  intro box nb
  refine sB Tryz.func80 Tryz.ntmps80 ?_
  intro hbox htok
  simp only at hbox htok
  apply AL.start
  try (simp)
  repeat (refine sR ?_; simp)
  refine sT ?_
  try simp only [AU]
  refine ⟨by simp, sF hbox htok (fun _ h => h) (Nat.le_refl _) ?_⟩
  simp [packA, nlB]
structure AccT where
  s : ByteArray
  line : Int
  out : List Tk
  own : Own
  tok : Nat → Bool
  nt : Nat
  f : Nat
structure TkInv (R : List Tk × Int × Int) (mtok : Nat → Bool) (nt0 : Nat) (x : AccT) : Prop where
  f : x.s.size ≤ x.f
  s : x.s.size ≤ 20000
  l0 : 0 ≤ x.line
  l1 : x.line ≤ 20001 - x.s.size
  n : x.out.length ≤ 4000
  r : toksF x.f x.s x.line x.out = R
  k : TK mtok nt0 x.tok x.nt [x.own]
theorem TkInv.of {R : List Tk × Int × Int} {mtok : Nat → Bool} {nt0 : Nat} {s : ByteArray} {line : Int} {out : List Tk} {own : Own} {tok : Nat → Bool} {nt f : Nat} (h1 : s.size ≤ f) (h2 : s.size ≤ 20000) (h3 : 0 ≤ line) (h4 : line ≤ 20001 - s.size) (h5 : out.length ≤ 4000)
    (h6 : toksF f s line out = R) (h7 : TK mtok nt0 tok nt [own]) : TkInv R mtok nt0 ⟨s, line, out, own, tok, nt, f⟩ := ⟨h1, h2, h3, h4, h5, h6, h7⟩
def stTo (nb : Nat) (box : Nat → Option (List (List AV))) (x : AccT) : AState :=
  ⟨tl [(0, Sb x.s), (5, .osl 3 (x.out.map Tk.cells) x.own), (6, I x.line)], lb nb box [], x.tok, x.nt⟩
set_option maxRecDepth 100000 in
theorem tokens_c (s : ByteArray) (hs : s.size ≤ 200000000000000) (tok : Nat → Bool) (nt : Nat) : DCall Tryz.prog 44 [Sb s] tok nt (.tup [.d (tks (toksR s).1), I (toksR s).2.1, I (toksR s).2.2]) tok nt := by
  intro box nb
  obtain ⟨R, hR⟩ : ∃ R, toksR s = R := ⟨_, rfl⟩
  rw [hR]
  unfold toksR at hR
  refine sB Tryz.func44 Tryz.ntmps44 ?_
  intro hbox htok
  simp only at hbox htok
  apply AL.start
  have ht0 := TK.start htok
  try (simp)
  repeat (refine sR ?_; simp)
  by_cases h0 : 20000 < s.size
  · rw [if_pos h0] at hR
    have h0' : (20000 : Int) < s.size := by omega
    try (simp [h0'])
    repeat (first | (refine sR ?_; simp [h0']) | (refine sC ?_; simp [h0']) | (refine sX ?_; simp only [AU, ↓reduceIte]))
    refine sT ?_
    try simp only [AU]
    refine ⟨by simp, sF hbox htok (fun _ h => h) (Nat.le_refl _) ?_⟩
    simp [packA, ← hR, tks]
  · rw [if_neg h0] at hR
    have h0' : ¬ (20000 : Int) < s.size := by omega
    try (simp [h0'])
    repeat (first | (refine sR ?_; simp [h0']) | (refine sC ?_; simp [h0']) | (refine sX ?_; simp only [AU, ↓reduceIte]))
    refine sN ?_
    refine AL.loopT (stTo nb box) (TkInv R tok nt) (fun x => x.s.size) ⟨s, 1, [], .full, tok, nt, s.size⟩ (TkInv.of (Nat.le_refl _) (by omega) (by omega) (by omega) (by simp) hR ht0.full) (Weaks.mk (Nat.le_refl _) rfl (by simp [ToL, lk]) trivial) ?_
    rintro ⟨s, line, out, own, tok1, nt1, f⟩ S hinv hS
    obtain ⟨hf, hsz, hl0, hl1, hn, hr, htk⟩ := hinv
    simp only [stTo] at hS hf hsz hl0 hl1 hn hr htk ⊢
    subst hS
    by_cases he : s.size = 0
    · rw [toksF_end he] at hr
      try (simp [he])
      repeat (refine sR ?_; simp [he])
      refine sC ?_
      simp
      refine sX ?_
      simp only [AU, ↓reduceIte]
      try (simp)
      repeat (refine sR ?_; simp)
      refine sT ?_
      try simp only [AU]
      refine ⟨by simp, sF hbox htok htk.old htk.le ?_⟩
      simp [packA, ← hr, tks]
    · have hlt : 0 < s.size := by omega
      have hlt' : (0 : Int) < s.size := by omega
      have hb := byteAt_lt hlt
      obtain ⟨f, rfl⟩ : ∃ f', f = f' + 1 := ⟨f - 1, by omega⟩
      have hle1 : (1 : Int) ≤ s.size := by omega
      have hle1' : 1 ≤ s.size := by omega
      have hd1 : s.extract 1 s.size = dropB s 1 := rfl
      have hds := dropB_size s 1
      try (simp [hlt, hlt'])
      repeat (refine sR ?_; simp [hlt, hlt'])
      refine sC ?_
      simp
      try (simp [hlt, hlt'])
      repeat (refine sR ?_; simp [hlt, hlt'])
      rw [hb]
      by_cases e1 : byteAt s 0 = 10
      · rw [toksF_nl he e1] at hr
        have hw : IntKind.i64.wrap (line + 1) = line + 1 := wrap_in (by omega) (by omega)
        try (simp [e1, hw, hle1, hle1', hd1])
        repeat (first | (refine sR ?_; simp [e1, hw, hle1, hle1', hd1]) | (refine sC ?_; simp [e1, hw, hle1, hle1', hd1]) | (refine sX ?_; simp only [AU, ↓reduceIte]))
        refine sE ?_
        exact ⟨⟨dropB s 1, line + 1, out, own, tok1, nt1, f⟩, TkInv.of (by omega) (by omega) (by omega) (by omega) hn hr htk, by simp only; omega, Weaks.mk htk.le rfl (by simp [ToL, lk]) trivial⟩
      · have b1 : (byteAt s 0 == 10) = false := by simp [e1]
        by_cases e2 : whiB (byteAt s 0) = true
        · rw [toksF_wh he e1 e2] at hr
          have e2' : byteAt s 0 = 32 ∨ byteAt s 0 = 9 ∨ byteAt s 0 = 13 := by simpa [whiB] using e2
          have fin : ∃ a', TkInv R tok nt a' ∧ a'.s.size < s.size ∧ a' = ⟨dropB s 1, line, out, own, tok1, nt1, f⟩ := ⟨_, TkInv.of (by omega) (by omega) (by omega) (by omega) hn hr htk, by simp only; omega, rfl⟩
          obtain ⟨a', fa, fb, fc⟩ := fin
          rcases e2' with e3 | e3 | e3
          · try (simp [b1, e3, hle1, hle1', hd1])
            repeat (first | (refine sR ?_; simp [b1, e3, hle1, hle1', hd1]) | (refine sC ?_; simp [b1, e3, hle1, hle1', hd1]) | (refine sX ?_; simp only [AU, ↓reduceIte]))
            refine sE ?_
            exact ⟨a', fa, fb, by subst fc; exact Weaks.mk htk.le rfl (by simp [ToL, lk]) trivial⟩
          · try (simp [b1, e3, hle1, hle1', hd1])
            repeat (first | (refine sR ?_; simp [b1, e3, hle1, hle1', hd1]) | (refine sC ?_; simp [b1, e3, hle1, hle1', hd1]) | (refine sX ?_; simp only [AU, ↓reduceIte]))
            refine sE ?_
            exact ⟨a', fa, fb, by subst fc; exact Weaks.mk htk.le rfl (by simp [ToL, lk]) trivial⟩
          · try (simp [b1, e3, hle1, hle1', hd1])
            repeat (first | (refine sR ?_; simp [b1, e3, hle1, hle1', hd1]) | (refine sC ?_; simp [b1, e3, hle1, hle1', hd1]) | (refine sX ?_; simp only [AU, ↓reduceIte]))
            refine sE ?_
            exact ⟨a', fa, fb, by subst fc; exact Weaks.mk htk.le rfl (by simp [ToL, lk]) trivial⟩
        · have e2' : ¬ byteAt s 0 = 32 ∧ ¬ byteAt s 0 = 9 ∧ ¬ byteAt s 0 = 13 := by simpa [whiB] using e2
          have b2 : (byteAt s 0 == 32) = false := by simp [e2'.1]
          have b3 : (byteAt s 0 == 9) = false := by simp [e2'.2.1]
          have b4 : (byteAt s 0 == 13) = false := by simp [e2'.2.2]
          by_cases e5 : byteAt s 0 = 35
          · rw [toksF_cm he e5] at hr
            have hrun := run_c s 80 nlB (by omega) tok1 nt1 fun c => tokens1_c c tok1 nt1
            have hp := runN_pos (p := nlB) (s := s) (a := 0) hlt (by simp [nlB, e5])
            have hle := runN_le nlB s 0
            have hdn : s.extract (runN nlB s 0) s.size = dropB s (runN nlB s 0) := rfl
            have hds2 := dropB_size s (runN nlB s 0)
            generalize runN nlB s 0 = n at *
            have hn1 : (n : Int) ≤ s.size := by omega
            have hn2 : n ≤ s.size := by omega
            try (simp [b1, e5])
            repeat (first | (refine sR ?_; simp [b1, e5]) | (refine sC ?_; simp [b1, e5]) | (refine sX ?_; simp only [AU, ↓reduceIte]))
            refine Stop.of_d (hrun) ?_
            simp
            try (simp [hn1, hn2, hdn])
            repeat (first | (refine sR ?_; simp [hn1, hn2, hdn]) | (refine sC ?_; simp [hn1, hn2, hdn]) | (refine sX ?_; simp only [AU, ↓reduceIte]))
            refine sE ?_
            exact ⟨⟨dropB s n, line, out, own, tok1, nt1, f⟩, TkInv.of (by omega) (by omega) (by omega) (by omega) hn hr htk, by simp only; omega, Weaks.mk htk.le rfl (by simp [ToL, lk]) trivial⟩
          · have b5 : (byteAt s 0 == 35) = false := by simp [e5]
            rw [toksF_tk he e1 e2 e5] at hr
            have hx := next_c s hlt (by omega)
            have hrg := nextR_rng (s := s) hlt
            have hte : textR s = if (nextR s).1 = 3 then s.extract 1 ((nextR s).2.1.toNat - 1) else s.extract 0 (nextR s).2.1.toNat := rfl
            generalize textR s = txt at *
            generalize nextR s = N at *
            try (simp [b1, b2, b3, b4, b5])
            repeat (first | (refine sR ?_; simp [b1, b2, b3, b4, b5]) | (refine sC ?_; simp [b1, b2, b3, b4, b5]) | (refine sX ?_; simp only [AU, ↓reduceIte]))
            refine Stop.of_d (hx _ _) ?_
            simp
            by_cases e6 : N.2.2 = 0
            · have b6 : (N.2.2 != 0) = false := by simp [e6]
              obtain ⟨r1, r2, r3, r4⟩ := hrg e6
              rw [if_neg (by simp [e6])] at hr
              by_cases e7 : out.length = 4000
              · rw [if_pos e7] at hr
                have b7 : ((out.length : Int) == 4000) = true := by rw [beq_iff_eq]; omega
                try (simp [b6, b7])
                repeat (first | (refine sR ?_; simp [b6, b7]) | (refine sC ?_; simp [b6, b7]) | (refine sX ?_; simp only [AU, ↓reduceIte]))
                refine sT ?_
                try simp only [AU]
                refine ⟨by simp, sF hbox htok htk.old htk.le ?_⟩
                simp [packA, ← hr, tks]
              · rw [if_neg e7] at hr
                have b7 : ((out.length : Int) == 4000) = false := by rw [beq_eq_false_iff_ne]; omega
                have q1 : 0 ≤ N.2.1 := by omega
                have q2 : N.2.1.toNat ≤ s.size := by omega
                have hds2 := dropB_size s N.2.1.toNat
                have hdn : s.extract N.2.1.toNat s.size = dropB s N.2.1.toNat := rfl
                have hfin : ∃ a', TkInv R tok nt a' ∧ a'.s.size < s.size ∧ a' = ⟨dropB s N.2.1.toNat, line, out ++ [⟨N.1, txt, line⟩], .tok nt1, upd (own.kill tok1) nt1 true, nt1 + 1, f⟩ :=
                  ⟨_, TkInv.of (by omega) (by omega) (by omega) (by omega) (by simp; omega) hr htk.app, by simp only; omega, rfl⟩
                obtain ⟨a', fa, fb, fc⟩ := hfin
                by_cases e8 : N.1 = 3
                · rw [if_pos e8] at hte
                  have r3' := r3 e8
                  have w1 : IntKind.i64.wrap (N.2.1 - 1) = N.2.1 - 1 := wrap_in (by omega) (by omega)
                  have q3 : (1 : Int) ≤ N.2.1 - 1 := by omega
                  have q4 : N.2.1 - 1 ≤ s.size := by omega
                  have q5 : 1 ≤ N.2.1.toNat - 1 := by omega
                  have q6 : N.2.1.toNat - 1 ≤ s.size := by omega
                  have q7 : 0 ≤ N.2.1 - 1 := by omega
                  have q8 : (N.2.1 - 1).toNat = N.2.1.toNat - 1 := by omega
                  try (simp [b6, b7, e8, q1, q2, r2, w1, q3, q4, q5, q6, q7, q8])
                  repeat (first | (refine sR ?_; simp [b6, b7, e8, q1, q2, r2, w1, q3, q4, q5, q6, q7, q8]) | (refine sC ?_; simp [b6, b7, e8, q1, q2, r2, w1, q3, q4, q5, q6, q7, q8]) | (refine sX ?_; simp only [AU, ↓reduceIte]))
                  refine ⟨by omega, ?_⟩
                  try (simp)
                  repeat (first | (refine sR ?_; simp) | (refine sC ?_; simp) | (refine sX ?_; simp only [AU, ↓reduceIte]))
                  refine ⟨⟨by omega, htk.live⟩, ?_⟩
                  try (simp [q1, q2, r2, hdn])
                  repeat (first | (refine sR ?_; simp [q1, q2, r2, hdn]) | (refine sC ?_; simp [q1, q2, r2, hdn]) | (refine sX ?_; simp only [AU, ↓reduceIte]))
                  refine sE ?_
                  exact ⟨a', fa, fb, by subst fc; exact Weaks.mk (by have := htk.le; omega) rfl (by simp [ToL, lk, e8, hte]) trivial⟩
                · rw [if_neg e8] at hte
                  have b8 : (N.1 == 3) = false := by simp [e8]
                  try (simp [b6, b7, b8, q1, q2, r2])
                  repeat (first | (refine sR ?_; simp [b6, b7, b8, q1, q2, r2]) | (refine sC ?_; simp [b6, b7, b8, q1, q2, r2]) | (refine sX ?_; simp only [AU, ↓reduceIte]))
                  refine ⟨⟨by omega, htk.live⟩, ?_⟩
                  try (simp [q1, q2, r2, hdn])
                  repeat (first | (refine sR ?_; simp [q1, q2, r2, hdn]) | (refine sC ?_; simp [q1, q2, r2, hdn]) | (refine sX ?_; simp only [AU, ↓reduceIte]))
                  refine sE ?_
                  exact ⟨a', fa, fb, by subst fc; exact Weaks.mk (by have := htk.le; omega) rfl (by simp [ToL, lk, hte]) trivial⟩
            · have b6 : (N.2.2 != 0) = true := by simp [e6]
              rw [if_pos e6] at hr
              try (simp [b6])
              repeat (first | (refine sR ?_; simp [b6]) | (refine sC ?_; simp [b6]) | (refine sX ?_; simp only [AU, ↓reduceIte]))
              refine sT ?_
              try simp only [AU]
              refine ⟨by simp, sF hbox htok htk.old htk.le ?_⟩
              simp [packA, ← hr, tks]
end Go.AM
namespace Go.AM
open Go Go.Proofs
set_option maxRecDepth 100000 in
theorem command_bad (L : List Tk) (n : Nat) : PrdC Tryz.prog L 83 (pCmd L 0) 0 := by
  intro r h hr ks box hk nb tok nt
  have hb := rem_zero h (by omega)
  have hR : pCmd L 0 r = (zC, r) := by simp only [pCmd]
  rw [hR]
  have hnb : 0 ≤ r.bad := by omega
  refine sB Tryz.func83 Tryz.ntmps83 ?_
  intro hbox htok
  simp only at hbox htok
  apply AL.start
  have kn := key_lt hbox hk
  try (simp [lb_out kn, hk, hnb])
  repeat (first | (refine sR ?_; simp [lb_out kn, hk, hnb]) | (refine sC ?_; simp [lb_out kn, hk, hnb]) | (refine sX ?_; simp only [AU, ↓reduceIte]))
  refine sT ?_
  try simp only [AU]
  refine ⟨by simp, (Fin.gen (av := Cm.av zC) (tok' := tok) (nt' := nt) (by simp [resAs, resA, lk]; rfl) hbox (Nat.le_refl _) (Nat.le_refl _) (fun t ht => ⟨ht, .inl rfl⟩) (fun k rows _ h => .inl h) (by simp [packA, zC, Cm.kind, Cm.name, Cm.num, Cm.kids, cms])).mono fun v m hq => ?_⟩
  exact ⟨hq.1, by rw [upd_keep hk]; exact hq.2⟩
theorem take_bad {L : List Tk} {r : RS} (hb : ¬ r.bad < 0) (s : ByteArray) : takeR L r s = r := by simp [takeR, peekB, failR, hb]
theorem block_bad {L : List Tk} {r : RS} (hb : ¬ r.bad < 0) (C : RS → Cm × RS) (hC : C r = (zC, r)) : blockR L C r = (zC, r) := by
  unfold blockR
  rw [take_bad hb, hC]
  simp only [restR]
  rw [if_neg (by simp [hb])]
  simp [wrapC, take_bad hb]
theorem p_goes (L : List Tk) : ∀ n, GoesN L (fun q => pCmd L n q) n ∧ GoesN L (fun q => pBlk L n q) n
  | 0 => ⟨fun r h h0 hb => absurd hb (rem_zero h (by omega)), fun r h h0 hb => absurd hb (rem_zero h (by omega))⟩
  | n + 1 => ⟨fun r h _ _ => by simp only [pCmd]; exact cmd_adv (p_adv L n).2 h, fun r h _ _ => by simp only [pBlk]; exact block_adv (p_adv L n).1 h⟩
theorem p_all (L : List Tk) (hL : L.length ≤ 1000000000) (hT : ∀ t ∈ L, t.text.size ≤ 200000000000000) : ∀ n, PrdC Tryz.prog L 83 (fun q => pCmd L n q) n ∧ PrdC Tryz.prog L 48 (fun q => pBlk L n q) n
  | 0 => by
    have h1 := command_bad L 0
    refine ⟨h1, fun r h hr ks box hk nb tok nt => ?_⟩
    have hb := rem_zero h (by omega)
    have h2 := block_of L hL _ 0 h1 (p_adv L 0).1 (p_goes L 0).1 r h (by omega) ks box hk nb tok nt
    have e : blockR L (pCmd L 0) r = (zC, r) := block_bad hb _ (by simp only [pCmd])
    have e2 : pBlk L 0 r = (zC, r) := by simp only [pBlk]
    rw [e] at h2
    simp only [e2]
    exact h2
  | n + 1 => by
    obtain ⟨h1, h2⟩ := p_all L hL hT n
    have h3 := command_of L hL hT _ n h2 (p_adv L n).2 (p_goes L n).2
    have h4 := block_of L hL _ n h1 (p_adv L n).1 (p_goes L n).1
    refine ⟨fun r => ?_, fun r => ?_⟩
    · simp only [pCmd]; exact h3 r
    · simp only [pBlk]; exact h4 r
def lineAt (L : List Tk) (i : Nat) : Int := match L[i]? with
  | some t => t.line
  | none => 0
structure TS where
  r : RS
  ps : List Pr
  ls : List Int
def topS (L : List Tk) (x : TS) : TS :=
  ⟨(pBlk L (L.length + 1) (kindR L (takeR L x.r sPro) 1).2).2, x.ps ++ [⟨(kindR L (takeR L x.r sPro) 1).1, (pBlk L (L.length + 1) (kindR L (takeR L x.r sPro) 1).2).1⟩], x.ls ++ [lineAt L x.r.at']⟩
def topR (L : List Tk) : Nat → TS → TS
  | 0, x => x
  | n + 1, x => if x.r.bad < 0 ∧ (x.r.at' < L.length ∨ L.length = 0) then topR L n (topS L x) else x
def badLine (L : List Tk) (b : Int) : Int := if b < L.length then lineAt L b.toNat else lineAt L (L.length - 1)
def parseL (L : List Tk) : List Pr × Int × Int :=
  if L.length = 0 then ([], 1, 2)
  else if 0 ≤ (topR L (L.length + 1) ⟨⟨0, -1⟩, [], []⟩).r.bad then ([], badLine L (topR L (L.length + 1) ⟨⟨0, -1⟩, [], []⟩).r.bad, 2)
  else if (faultR (topR L (L.length + 1) ⟨⟨0, -1⟩, [], []⟩).ps [] false).2 ≠ 0 then
    ([], if 0 ≤ (faultR (topR L (L.length + 1) ⟨⟨0, -1⟩, [], []⟩).ps [] false).1 then ((topR L (L.length + 1) ⟨⟨0, -1⟩, [], []⟩).ls.getD (faultR (topR L (L.length + 1) ⟨⟨0, -1⟩, [], []⟩).ps [] false).1.toNat 0) else 0, (faultR (topR L (L.length + 1) ⟨⟨0, -1⟩, [], []⟩).ps [] false).2)
  else ((topR L (L.length + 1) ⟨⟨0, -1⟩, [], []⟩).ps, 0, 0)
def parseR (s : ByteArray) : List Pr × Int × Int := if (toksR s).2.2 ≠ 0 then ([], (toksR s).2.1, (toksR s).2.2) else parseL (toksR s).1
end Go.AM
namespace Go.AM
open Go Go.Proofs
theorem rem_bad {L : List Tk} {r : RS} (h : ¬ r.bad < 0) : rem L r = 0 := by unfold rem; rw [if_neg h]
theorem rem_pos {L : List Tk} {r : RS} (h : r.bad < 0) (ho : r.Ok L) : 1 ≤ rem L r := by have := ho.a; unfold rem; rw [if_pos h]; omega
structure SzF (L : List Tk) (F : RS → Cm × RS) (n : Nat) : Prop where
  go : Goes L F
  bd : ∀ r : RS, ¬ r.bad < 0 → F r = (zC, r)
  sz : ∀ r : RS, r.Ok L → rem L r ≤ n → r.bad < 0 → (F r).1.size + 5 * rem L (F r).2 ≤ 5 * rem L r + 1
  sm : ∀ r : RS, r.Ok L → rem L r ≤ n → (F r).1.Sm
theorem nil_size : (⟨#[]⟩ : ByteArray).size ≤ 200000000000000 := by decide
theorem zC_size : zC.size = 1 := rfl
theorem zC_sm : zC.Sm := .mk nil_size (by simp [zC, Cm.kids]) (by simp [zC, Cm.kids])
theorem SzF.all {L : List Tk} {F : RS → Cm × RS} {n : Nat} (h : SzF L F n) (r : RS) (ho : r.Ok L) (hr : rem L r ≤ n) : (F r).1.size + 5 * rem L (F r).2 ≤ 5 * rem L r + 1 := by
  by_cases hb : r.bad < 0
  · exact h.sz r ho hr hb
  · rw [h.bd r hb, zC_size]; simp only; omega
theorem Cm.sizeL_snoc (l : List Cm) (c : Cm) : Cm.sizeL (l ++ [c]) = Cm.sizeL l + c.size := by rw [Cm.sizeL_app]; simp [Cm.sizeL]
theorem sm_snoc {l : List Cm} {c : Cm} (hl : ∀ x ∈ l, x.Sm) (hc : c.Sm) : ∀ x ∈ l ++ [c], x.Sm := fun x hx => by
  rcases List.mem_append.1 hx with hx | hx
  · exact hl x hx
  · simp at hx; rw [hx]; exact hc
theorem blks_sz {L : List Tk} {B : RS → Cm × RS} {n : Nat} (hB : SzF L B n) : ∀ (ws : List ByteArray) (r : RS) (l : List Cm), r.Ok L → rem L r ≤ n → (∀ c ∈ l, c.Sm) → Cm.sizeL (blksR L B ws r l).1 + 5 * rem L (blksR L B ws r l).2 ≤ Cm.sizeL l + 5 * rem L r + ws.length ∧ ∀ c ∈ (blksR L B ws r l).1, c.Sm
  | [], r, l, h, _, hl => ⟨by simp [blksR], hl⟩
  | w :: ws, r, l, h, hr, hl => by
    have h1 := (AdvS.take h w).adv
    have h3 := rem_adv h1
    have h2 := hB.all _ h1.ok (by omega)
    have h5 := rem_adv (hB.go _ h1.ok)
    have h4 := blks_sz hB ws (B (takeR L r w)).2 (l ++ [(B (takeR L r w)).1]) (hB.go _ h1.ok).ok (by omega) (sm_snoc hl (hB.sm _ h1.ok (by omega)))
    rw [Cm.sizeL_snoc] at h4
    refine ⟨?_, h4.2⟩
    have := h4.1
    simp only [blksR, List.length_cons]
    omega
theorem blocks_sz {L : List Tk} {B : RS → Cm × RS} {n : Nat} (hB : SzF L B n) (r : RS) (h : r.Ok L) (hr : rem L r ≤ n) (ws : List ByteArray) : Cm.sizeL (blocksR L B r ws).1 + 5 * rem L (blocksR L B r ws).2 ≤ 5 * rem L r + 1 + ws.length ∧ ∀ c ∈ (blocksR L B r ws).1, c.Sm := by
  have h2 := hB.all r h hr
  have h5 := rem_adv (hB.go r h)
  have h4 := blks_sz hB ws (B r).2 [(B r).1] (hB.go r h).ok (by omega) (fun c hc => by simp at hc; rw [hc]; exact hB.sm r h hr)
  refine ⟨?_, h4.2⟩
  have := h4.1
  simp only [Cm.sizeL] at this
  unfold blocksR
  omega
theorem ors_sz {L : List Tk} {B : RS → Cm × RS} {k : Nat} (hB : SzF L B k) : ∀ (n : Nat) (r : RS) (l : List Cm), r.Ok L → rem L r ≤ k → (∀ c ∈ l, c.Sm) → Cm.sizeL (orsR L B n r l).1 + 5 * rem L (orsR L B n r l).2 ≤ Cm.sizeL l + 5 * rem L r ∧ ∀ c ∈ (orsR L B n r l).1, c.Sm
  | 0, r, l, h, _, hl => ⟨by simp [orsR], hl⟩
  | n + 1, r, l, h, hr, hl => by
    unfold orsR
    split
    · rename_i hp
      have h1 : AdvS L r ⟨r.at' + 1, r.bad⟩ := by
        have := AdvS.take h sOr
        unfold takeR at this
        rw [if_pos hp] at this
        exact this
      have hb : r.bad < 0 := by unfold peekB at hp; simp only [Bool.and_eq_true, decide_eq_true_eq] at hp; exact hp.1
      have h3 := rem_advS h1 hb h
      have h2 := hB.all _ h1.ok (by omega)
      have h5 := rem_adv (hB.go _ h1.ok)
      have h4 := ors_sz hB n (B ⟨r.at' + 1, r.bad⟩).2 (l ++ [(B ⟨r.at' + 1, r.bad⟩).1]) (hB.go _ h1.ok).ok (by omega) (sm_snoc hl (hB.sm _ h1.ok (by omega)))
      rw [Cm.sizeL_snoc] at h4
      refine ⟨?_, h4.2⟩
      have := h4.1
      omega
    · exact ⟨by simp, hl⟩
structure SzC (L : List Tk) (F : RS → Cm × RS) (n : Nat) : Prop where
  go : Goes L F
  bd : ∀ r : RS, ¬ r.bad < 0 → F r = (zC, r)
  sz : ∀ r : RS, r.Ok L → rem L r ≤ n → r.bad < 0 → (F r).1.size + 5 * rem L (F r).2 ≤ 5 * rem L r
  sm : ∀ r : RS, r.Ok L → rem L r ≤ n → (F r).1.Sm
theorem SzC.f {L : List Tk} {F : RS → Cm × RS} {n : Nat} (h : SzC L F n) : SzF L F n := ⟨h.go, h.bd, fun r ho hr hb => by have := h.sz r ho hr hb; omega, h.sm⟩
theorem rest_sz {L : List Tk} {C : RS → Cm × RS} {k : Nat} (hC : SzC L C k) : ∀ (n : Nat) (r : RS) (l : List Cm), r.Ok L → rem L r ≤ k → (∀ c ∈ l, c.Sm) → Cm.sizeL (restR L C n r l).1 + 5 * rem L (restR L C n r l).2 ≤ Cm.sizeL l + 5 * rem L r ∧ ∀ c ∈ (restR L C n r l).1, c.Sm
  | 0, r, l, h, _, hl => ⟨by simp [restR], hl⟩
  | n + 1, r, l, h, hr, hl => by
    unfold restR
    split
    · rename_i hp
      have h2 := hC.sz r h hr hp.1
      have h5 := rem_adv (hC.go r h)
      have h4 := rest_sz hC n (C r).2 (l ++ [(C r).1]) (hC.go r h).ok (by omega) (sm_snoc hl (hC.sm r h hr))
      rw [Cm.sizeL_snoc] at h4
      refine ⟨?_, h4.2⟩
      have := h4.1
      omega
    · exact ⟨by simp, hl⟩
theorem wrap_size (l : List Cm) : (wrapC l).size ≤ 1 + Cm.sizeL l := by
  unfold wrapC
  split
  · simp [Cm.sizeL]
  · rw [Cm.size_eq]; simp [Cm.kids]
theorem wrap_sm {l : List Cm} (hl : ∀ c ∈ l, c.Sm) (hn : l.length ≤ 200000000000000) : (wrapC l).Sm := by
  unfold wrapC
  split
  · exact hl _ (by simp)
  · exact .mk nil_size hn hl
theorem rem_le (L : List Tk) (r : RS) : rem L r ≤ L.length + 1 := by unfold rem; split <;> omega
theorem block_sz {L : List Tk} (hL : L.length ≤ 1000000) {C : RS → Cm × RS} {n : Nat} (hC : SzC L C n) : SzF L (blockR L C) (n + 1) := by
  have key : ∀ r : RS, r.Ok L → rem L r ≤ n + 1 → r.bad < 0 → (blockR L C r).1.size + 5 * rem L (blockR L C r).2 ≤ 5 * rem L r + 1 ∧ (blockR L C r).1.Sm := by
    intro r h hr hb
    have h1 := AdvS.take h sOp
    have h3 := rem_advS h1 hb h
    have h2 := hC.f.all _ h1.ok (by omega)
    have h8 := rem_adv (hC.go _ h1.ok)
    have h4 := rest_sz hC (L.length + 1) (C (takeR L r sOp)).2 [(C (takeR L r sOp)).1] (hC.go _ h1.ok).ok (by omega) (fun c hc => by simp at hc; rw [hc]; exact hC.sm _ h1.ok (by omega))
    have h5 := wrap_size (restR L C (L.length + 1) (C (takeR L r sOp)).2 [(C (takeR L r sOp)).1]).1
    have ha := rest_adv hC.go (L.length + 1) (C (takeR L r sOp)).2 [(C (takeR L r sOp)).1] (hC.go _ h1.ok).ok
    have h6 := rem_adv (AdvS.take ha.ok sCl).adv
    have hq := rem_le L (takeR L r sOp)
    have h9 := Cm.len_le (restR L C (L.length + 1) (C (takeR L r sOp)).2 [(C (takeR L r sOp)).1]).1
    have h7 := h4.1
    simp only [Cm.sizeL] at h7
    refine ⟨?_, wrap_sm h4.2 (by omega)⟩
    unfold blockR
    simp only
    omega
  refine ⟨fun r h => (block_adv hC.go h).adv, fun r hb => block_bad hb C (hC.bd r hb), fun r h hr hb => (key r h hr hb).1, fun r h hr => ?_⟩
  by_cases hb : r.bad < 0
  · exact (key r h hr hb).2
  · rw [block_bad hb C (hC.bd r hb)]; exact zC_sm
theorem mk_size (k n : Int) (s : ByteArray) (l : List Cm) : (Cm.mk k s n l).size = 1 + Cm.sizeL l := by rw [Cm.size_eq]; rfl
theorem cmd_sz {L : List Tk} (hL : L.length ≤ 1000000) (hT : ∀ t ∈ L, t.text.size ≤ 200000000000000) {B : RS → Cm × RS} {n : Nat} (hB : SzF L B n) : SzC L (cmdR L B) (n + 1) := by
  have key : ∀ r : RS, r.Ok L → rem L r ≤ n + 1 → r.bad < 0 → (cmdR L B r).1.size + 5 * rem L (cmdR L B r).2 ≤ 5 * rem L r ∧ (cmdR L B r).1.Sm := by
    intro r h hr hb
    have h1 := AdvS.kind h 1
    have h3 := rem_advS h1 hb h
    have hR : cmdR L B r = cmdS L B (kindR L r 1).1 (kindR L r 1).2 := by unfold cmdR; rw [if_pos hb]
    rw [hR]
    have ho := h1.ok
    have hba : (kindR L r 1).2.bad < 0 → 1 ≤ (kindR L r 1).2.at' := fun h2 => by have := h1.lt h2; omega
    generalize (kindR L r 1).1 = w
    generalize (kindR L r 1).2 = q at *
    have hq := rem_le L q
    have hqn : rem L q ≤ n := by omega
    have simp' : ∀ k b, (simpR L q k b).1.size + 5 * rem L (simpR L q k b).2 ≤ 5 * rem L r ∧ (simpR L q k b).1.Sm := fun k b => by
      have ha := rem_adv (AdvS.simp ho k b).adv
      refine ⟨?_, ?_⟩
      · have : (simpR L q k b).1.size = 1 := by unfold simpR; split <;> rfl
        omega
      · unfold simpR
        split
        · exact .mk (by simp only [Cm.name]; exact kind_size hT q 1) (by simp [Cm.kids]) (by simp [Cm.kids])
        · exact .mk nil_size (by simp [Cm.kids]) (by simp [Cm.kids])
    have mk' : ∀ (k n : Int) (x : List Cm × RS), Cm.sizeL x.1 + 5 * rem L x.2 ≤ 5 * rem L q + 4 → (∀ c ∈ x.1, c.Sm) → (asK k n x).1.size + 5 * rem L (asK k n x).2 ≤ 5 * rem L r ∧ (asK k n x).1.Sm := fun k n x hx hs => by
      have hl := Cm.len_le x.1
      refine ⟨?_, .mk nil_size (by simp only [asK, Cm.kids]; omega) (by simpa [asK, Cm.kids] using hs)⟩
      unfold asK
      simp only [mk_size]
      omega
    unfold cmdS
    repeat' split
    · exact simp' _ _
    · exact simp' _ _
    · exact simp' _ _
    · exact simp' _ _
    · have hb := blocks_sz hB q ho hqn []; exact mk' _ _ _ (by have := hb.1; simp only [List.length_nil] at this; omega) hb.2
    · have hb := blocks_sz hB q ho hqn []; exact mk' _ _ _ (by have := hb.1; simp only [List.length_nil] at this; omega) hb.2
    · have hb := blocks_sz hB q ho hqn [sThe, sEls]; exact mk' _ _ _ (by have := hb.1; simp only [List.length_cons, List.length_nil] at this; omega) hb.2
    · have hb := blocks_sz hB q ho hqn [sOr]
      have ha := rem_adv (blocks_adv hB.go ho [sOr])
      have hc := ors_sz hB (L.length + 1) (blocksR L B q [sOr]).2 (blocksR L B q [sOr]).1 (blocks_adv hB.go ho _).ok (by omega) hb.2
      exact mk' _ _ _ (by have := hb.1; have := hc.1; simp only [List.length_cons, List.length_nil] at *; omega) hc.2
    · have hk := AdvS.kind ho 2
      have hr := rem_adv hk.adv
      have hb := blocks_sz hB (kindR L q 2).2 hk.ok (by omega) []; exact mk' _ _ _ (by have := hb.1; simp only [List.length_nil] at this; omega) hb.2
    · rename_i hb2
      refine ⟨?_, zC_sm⟩
      rw [zC_size]
      have h4 := hba hb2
      have : rem L ⟨q.at', (q.at' : Int) - 1⟩ = 0 := rem_bad (by simp only; omega)
      simp only [this]
      omega
    · refine ⟨?_, zC_sm⟩
      rw [zC_size]
      simp only
      omega
  refine ⟨fun r h => (cmd_adv hB.go h).adv, fun r hb => by unfold cmdR; rw [if_neg hb], fun r h hr hb => (key r h hr hb).1, fun r h hr => ?_⟩
  by_cases hb : r.bad < 0
  · exact (key r h hr hb).2
  · unfold cmdR; rw [if_neg hb]; exact zC_sm
theorem p_sz {L : List Tk} (hL : L.length ≤ 1000000) (hT : ∀ t ∈ L, t.text.size ≤ 200000000000000) : ∀ n, SzC L (fun q => pCmd L n q) n ∧ SzF L (fun q => pBlk L n q) n
  | 0 => ⟨⟨(p_adv L 0).1, fun r _ => by simp only [pCmd], fun r h hr hb => absurd hb (rem_zero h (by omega)), fun r _ _ => by simp only [pCmd]; exact zC_sm⟩,
      ⟨(p_adv L 0).2, fun r _ => by simp only [pBlk], fun r h hr hb => absurd hb (rem_zero h (by omega)), fun r _ _ => by simp only [pBlk]; exact zC_sm⟩⟩
  | n + 1 => by
    obtain ⟨h1, h2⟩ := p_sz hL hT n
    have e1 : (fun q => pCmd L (n + 1) q) = cmdR L (fun q => pBlk L n q) := by funext q; simp only [pCmd]
    have e2 : (fun q => pBlk L (n + 1) q) = blockR L (fun q => pCmd L n q) := by funext q; simp only [pBlk]
    rw [e1, e2]
    exact ⟨cmd_sz hL hT h2, block_sz hL h1⟩
structure TOk (L : List Tk) (x : TS) : Prop where
  ok : x.r.Ok L
  ln : x.ps.length + rem L x.r ≤ L.length + 1
  nm : ∀ q ∈ x.ps, q.name.size ≤ 200000000000000
  sm : ∀ q ∈ x.ps, q.body.Sm
  sz : ∀ q ∈ x.ps, q.body.size ≤ 1000000
  ls : x.ls.length = x.ps.length
theorem TOk.start (L : List Tk) : TOk L ⟨⟨0, -1⟩, [], []⟩ := ⟨⟨by simp, by simp, by show (-1 : Int) ≤ L.length; omega⟩, by simp [rem], by simp, by simp, by simp, rfl⟩
theorem topS_ok {L : List Tk} (hL : L.length ≤ 100000) (hT : ∀ t ∈ L, t.text.size ≤ 200000000000000) {x : TS} (h : TOk L x) (hb : x.r.bad < 0) : TOk L (topS L x) ∧ rem L (topS L x).r < rem L x.r := by
  have h1 := AdvS.take h.ok sPro
  have h2 := AdvS.kind h1.ok 1
  have h3 := (p_sz (by omega) hT (L.length + 1)).2
  have hr := rem_le L (kindR L (takeR L x.r sPro) 1).2
  have h4 := h3.all _ h2.ok hr
  have h5 := h3.go _ h2.ok
  have h6 := rem_advS h1 hb h.ok
  have h7 := rem_adv h2.adv
  have h8 := rem_adv h5
  have hsz := kind_size hT (takeR L x.r sPro) 1
  have hln := h.ln
  have hlt : rem L (topS L x).r < rem L x.r := by unfold topS; simp only; omega
  refine ⟨⟨h5.ok, ?_, ?_, ?_, ?_, ?_⟩, hlt⟩
  · unfold topS at hlt ⊢; simp only [List.length_append, List.length_cons, List.length_nil] at hlt ⊢; omega
  · intro q hq
    rcases List.mem_append.1 hq with hq | hq
    · exact h.nm q hq
    · simp at hq; rw [hq]; exact hsz
  · intro q hq
    rcases List.mem_append.1 hq with hq | hq
    · exact h.sm q hq
    · simp at hq; rw [hq]; exact h3.sm _ h2.ok hr
  · intro q hq
    rcases List.mem_append.1 hq with hq | hq
    · exact h.sz q hq
    · simp at hq; rw [hq]; simp only; omega
  · unfold topS; simp [h.ls]
theorem TOk.prs {L : List Tk} (hL : L.length ≤ 100000) {x : TS} (h : TOk L x) : PrsOk x.ps := ⟨by have := h.ln; omega, h.nm, h.sm, h.sz⟩
theorem text_size (s : ByteArray) (h : s.size ≤ 20000) : (textR s).size ≤ 20000 := by
  unfold textR
  split
  · rw [ByteArray.size_extract]; omega
  · rw [ByteArray.size_extract]; omega
theorem toksF_ok : ∀ (f : Nat) (s : ByteArray) (line : Int) (out : List Tk), s.size ≤ 20000 → (∀ t ∈ out, t.text.size ≤ 20000) → out.length ≤ 4000 → (∀ t ∈ (toksF f s line out).1, t.text.size ≤ 20000) ∧ (toksF f s line out).1.length ≤ 4000
  | 0, s, line, out, hs, ho, hn => ⟨ho, hn⟩
  | f + 1, s, line, out, hs, ho, hn => by
    unfold toksF
    repeat' split
    · exact ⟨ho, hn⟩
    · exact toksF_ok f _ _ _ (by rw [dropB_size]; omega) ho hn
    · exact toksF_ok f _ _ _ (by rw [dropB_size]; omega) ho hn
    · exact toksF_ok f _ _ _ (by rw [dropB_size]; omega) ho hn
    · exact ⟨by simp, by simp⟩
    · exact ⟨by simp, by simp⟩
    · refine toksF_ok f _ _ _ (by rw [dropB_size]; omega) (fun t ht => ?_) (by simp; omega)
      rcases List.mem_append.1 ht with ht | ht
      · exact ho t ht
      · simp at ht; rw [ht]; exact text_size s hs
theorem toksR_ok (s : ByteArray) : (∀ t ∈ (toksR s).1, t.text.size ≤ 20000) ∧ (toksR s).1.length ≤ 4000 := by
  unfold toksR
  split
  · exact ⟨by simp, by simp⟩
  · exact toksF_ok _ _ _ _ (by omega) (by simp) (by simp)
end Go.AM
namespace Go.AM
open Go Go.Proofs
structure Xp where
  b : Cm
  n : Int
abbrev Xp.cells (x : Xp) : List D := [.raw (.int .i64 x.b.kind), .raw (.string x.b.name), .raw (.int .i64 x.b.num), cms x.b.kids, .raw (.int .i64 x.n)]
abbrev xps (l : List Xp) : D := .sl 5 (l.map Xp.cells)
abbrev Xp.row (x : Xp) : List AV := [I x.b.kind, Sb x.b.name, I x.b.num, .d (cms x.b.kids), I x.n]
abbrev Xp.av (x : Xp) : AV := .agg x.row
structure Xa where
  l : List Cm
  n : Int
def xStep (sq : Bool) (a : Xa) (x : Xp) : Xa := if (sq && x.b.kind == 2) = true then ⟨a.l ++ x.b.kids, a.n + (x.n - 1)⟩ else ⟨a.l ++ [x.b], a.n + x.n⟩
mutual
def expC (p : List Pr) (kn : List Xp) : Cm → Xp × Bool
  | .mk k s n c => if k = 10 then (kn.getD (placeR p s).toNat ⟨zC, 0⟩, decide ((kn.getD (placeR p s).toNat ⟨zC, 0⟩).n ≤ 200))
    else (⟨.mk k s n (expL p kn (k == 2) c ⟨[], 1⟩).1.l, (expL p kn (k == 2) c ⟨[], 1⟩).1.n⟩, (expL p kn (k == 2) c ⟨[], 1⟩).2)
def expL (p : List Pr) (kn : List Xp) (sq : Bool) : List Cm → Xa → Xa × Bool
  | [], a => (a, true)
  | x :: r, a => if (expC p kn x).2 = false then (a, false) else if 200 < (xStep sq a (expC p kn x).1).n then (xStep sq a (expC p kn x).1, false) else expL p kn sq r (xStep sq a (expC p kn x).1)
end
theorem expC_eq (p : List Pr) (kn : List Xp) (c : Cm) : expC p kn c = if c.kind = 10 then (kn.getD (placeR p c.name).toNat ⟨zC, 0⟩, decide ((kn.getD (placeR p c.name).toNat ⟨zC, 0⟩).n ≤ 200))
    else (⟨.mk c.kind c.name c.num (expL p kn (c.kind == 2) c.kids ⟨[], 1⟩).1.l, (expL p kn (c.kind == 2) c.kids ⟨[], 1⟩).1.n⟩, (expL p kn (c.kind == 2) c.kids ⟨[], 1⟩).2) := by
  cases c
  rw [expC]
  rfl
inductive CallsOk (p : List Pr) (at' : Nat) : Cm → Prop
  | mk {c : Cm} (h : c.kind = 10 → 0 ≤ placeR p c.name ∧ placeR p c.name < at') (hk : ∀ x ∈ c.kids, CallsOk p at' x) : CallsOk p at' c
theorem CallsOk.call {p : List Pr} {at' : Nat} {c : Cm} (h : CallsOk p at' c) : c.kind = 10 → 0 ≤ placeR p c.name ∧ placeR p c.name < at' := by cases h; assumption
theorem CallsOk.kid {p : List Pr} {at' : Nat} {c : Cm} (h : CallsOk p at' c) : ∀ x ∈ c.kids, CallsOk p at' x := by cases h; assumption
structure KnOk (kn : List Xp) : Prop where
  r : ∀ x ∈ kn, 0 ≤ x.n ∧ x.n ≤ 201
  s : ∀ x ∈ kn, x.n ≤ 200 → (x.b.size : Int) = x.n
  m : ∀ x ∈ kn, x.b.Sm
theorem KnOk.get {kn : List Xp} (h : KnOk kn) {i : Nat} (hi : i < kn.length) : kn.getD i ⟨zC, 0⟩ ∈ kn := by
  rw [List.getD_eq_getElem?_getD, List.getElem?_eq_getElem hi]
  exact List.getElem_mem hi
theorem xStep_ok {sq : Bool} {a : Xa} {x : Xp} (ha : (1 + (Cm.sizeL a.l : Int)) = a.n) (hx : (x.b.size : Int) = x.n) : (1 + (Cm.sizeL (xStep sq a x).l : Int)) = (xStep sq a x).n := by
  unfold xStep
  split
  · have := x.b.size_eq
    simp only [Cm.sizeL_app]
    omega
  · simp only [Cm.sizeL_app, Cm.sizeL]
    omega
theorem xStep_sm {sq : Bool} {a : Xa} {x : Xp} (ha : ∀ c ∈ a.l, c.Sm) (hx : x.b.Sm) : ∀ c ∈ (xStep sq a x).l, c.Sm := by
  unfold xStep
  split
  · intro c hc
    rcases List.mem_append.1 hc with hc | hc
    · exact ha c hc
    · exact hx.kid c hc
  · exact sm_snoc ha hx
theorem exp_ok (p : List Pr) (kn : List Xp) (hk : KnOk kn) : ∀ (n : Nat) (c : Cm), c.size < n → c.Sm → CallsOk p kn.length c →
    0 ≤ (expC p kn c).1.n ∧ ((expC p kn c).2 = true → ((expC p kn c).1.b.size : Int) = (expC p kn c).1.n ∧ (expC p kn c).1.n ≤ 200 ∧ (expC p kn c).1.b.Sm)
  | 0, c, h, _, _ => absurd h (Nat.not_lt_zero _)
  | n + 1, c, h, hs, hcl => by
    have key : ∀ (sq : Bool) (l : List Cm) (a : Xa), (∀ x ∈ l, x.size < n ∧ x.Sm ∧ CallsOk p kn.length x) → (1 + (Cm.sizeL a.l : Int)) = a.n → a.n ≤ 200 → (∀ c ∈ a.l, c.Sm) →
        0 ≤ (expL p kn sq l a).1.n ∧ ((expL p kn sq l a).2 = true → (1 + (Cm.sizeL (expL p kn sq l a).1.l : Int)) = (expL p kn sq l a).1.n ∧ (expL p kn sq l a).1.n ≤ 200 ∧ ∀ c ∈ (expL p kn sq l a).1.l, c.Sm) := by
      intro sq l
      induction l with
      | nil => intro a _ h1 h2 h3; simp only [expL]; exact ⟨by omega, fun _ => ⟨h1, h2, h3⟩⟩
      | cons x r ih =>
        intro a hx h1 h2 h3
        obtain ⟨x1, x2, x3⟩ := hx x (by simp)
        obtain ⟨e1, e2⟩ := exp_ok p kn hk n x x1 x2 x3
        rw [expL]
        split
        · exact ⟨by simp only; omega, fun h => by cases h⟩
        · rename_i hok
          have hok' : (expC p kn x).2 = true := by simpa using hok
          obtain ⟨f1, f2, f3⟩ := e2 hok'
          have g1 := xStep_ok (sq := sq) h1 f1
          split
          · exact ⟨by simp only; omega, fun h => by cases h⟩
          · exact ih _ (fun y hy => hx y (by simp [hy])) g1 (by omega) (xStep_sm h3 f3)
    rw [expC_eq]
    split
    · rename_i h10
      have hp := hcl.call h10
      have hm := hk.get (i := (placeR p c.name).toNat) (by omega)
      refine ⟨(hk.r _ hm).1, fun h => ?_⟩
      have h2 : (kn.getD (placeR p c.name).toNat ⟨zC, 0⟩).n ≤ 200 := by simpa using h
      exact ⟨hk.s _ hm h2, h2, hk.m _ hm⟩
    · have hk2 := key (c.kind == 2) c.kids ⟨[], 1⟩ (fun x hx => ⟨by have := Cm.kid_size hx; omega, hs.kid x hx, hcl.kid x hx⟩) (by simp [Cm.sizeL]) (by simp) (by simp)
      generalize expL p kn (c.kind == 2) c.kids ⟨[], 1⟩ = E at *
      refine ⟨hk2.1, fun h => ?_⟩
      obtain ⟨k1, k2, k3⟩ := hk2.2 h
      have hl := Cm.len_le E.1.l
      have hz := mk_size c.kind c.num c.name E.1.l
      refine ⟨?_, k2, .mk hs.name (by show E.1.l.length ≤ _; omega) k3⟩
      show ((Cm.mk c.kind c.name c.num E.1.l).size : Int) = E.1.n
      omega
theorem expL_ok (p : List Pr) (kn : List Xp) (hk : KnOk kn) (sq : Bool) : ∀ (l : List Cm) (a : Xa), (∀ x ∈ l, x.Sm ∧ CallsOk p kn.length x) → (1 + (Cm.sizeL a.l : Int)) = a.n → a.n ≤ 200 → (∀ c ∈ a.l, c.Sm) →
    (expL p kn sq l a).2 = true → (1 + (Cm.sizeL (expL p kn sq l a).1.l : Int)) = (expL p kn sq l a).1.n ∧ (expL p kn sq l a).1.n ≤ 200 ∧ ∀ c ∈ (expL p kn sq l a).1.l, c.Sm
  | [], a, _, h1, h2, h3, _ => by simp only [expL]; exact ⟨h1, h2, h3⟩
  | x :: r, a, hx, h1, h2, h3, ht => by
    obtain ⟨x2, x3⟩ := hx x (by simp)
    obtain ⟨e1, e2⟩ := exp_ok p kn hk _ x (Nat.lt_succ_self _) x2 x3
    rw [expL] at ht ⊢
    by_cases g1 : (expC p kn x).2 = false
    · rw [if_pos g1] at ht; cases ht
    · rw [if_neg g1] at ht ⊢
      obtain ⟨f1, f2, f3⟩ := e2 (by simpa using g1)
      by_cases g2 : 200 < (xStep sq a (expC p kn x).1).n
      · rw [if_pos g2] at ht; cases ht
      · rw [if_neg g2] at ht ⊢
        exact expL_ok p kn hk sq r _ (fun y hy => hx y (by simp [hy])) (xStep_ok h1 f1) (by omega) (xStep_sm h3 f3) ht
theorem expL_snoc {p : List Pr} {kn : List Xp} {sq : Bool} : ∀ {l k : List Cm} {a b : Xa}, expL p kn sq l a = (b, true) → expL p kn sq (l ++ k) a = expL p kn sq k b
  | [], k, a, b, h => by
    rw [expL] at h
    injection h with h
    rw [List.nil_append, h]
  | x :: r, k, a, b, h => by
    rw [List.cons_append, expL]
    rw [expL] at h
    by_cases g1 : (expC p kn x).2 = false
    · rw [if_pos g1] at h; injection h with _ h; cases h
    · rw [if_neg g1] at h ⊢
      by_cases g2 : 200 < (xStep sq a (expC p kn x).1).n
      · rw [if_pos g2] at h; injection h with _ h; cases h
      · rw [if_neg g2] at h ⊢
        exact expL_snoc h
theorem expL_at {p : List Pr} {kn : List Xp} {sq : Bool} {l : List Cm} {a b : Xa} {i : Nat} (h : i < l.length) (ht : expL p kn sq (l.take i) a = (b, true)) :
    expL p kn sq l a = (if (expC p kn l[i]).2 = false then (b, false) else if 200 < (xStep sq b (expC p kn l[i]).1).n then (xStep sq b (expC p kn l[i]).1, false) else expL p kn sq (l.drop (i + 1)) (xStep sq b (expC p kn l[i]).1)) := by
  have h1 := expL_snoc (k := l.drop i) ht
  rw [List.take_append_drop] at h1
  rw [h1, List.drop_eq_getElem_cons h, expL]
theorem expL_more {p : List Pr} {kn : List Xp} {sq : Bool} {l : List Cm} {a b : Xa} {i : Nat} (h : i < l.length) (ht : expL p kn sq (l.take i) a = (b, true)) (h1 : ¬ (expC p kn l[i]).2 = false) (h2 : ¬ 200 < (xStep sq b (expC p kn l[i]).1).n) :
    expL p kn sq (l.take (i + 1)) a = (xStep sq b (expC p kn l[i]).1, true) := by
  rw [List.take_succ_eq_append_getElem h, expL_snoc ht, expL, if_neg h1, if_neg h2, expL]
def knStep (p : List Pr) (kn : List Xp) (q : Pr) : List Xp := kn ++ [if (expC p kn q.body).2 = true then (expC p kn q.body).1 else ⟨zC, 201⟩]
def knR (p : List Pr) (n : Nat) : List Xp := (p.take n).foldl (knStep p) []
theorem knR_succ {p : List Pr} {n : Nat} (h : n < p.length) : knR p (n + 1) = knStep p (knR p n) p[n] := by
  simp only [knR, List.take_succ_eq_append_getElem h, List.foldl_append, List.foldl_cons, List.foldl_nil]
def ValidP (p : List Pr) : Prop := ∀ i (h : i < p.length), CallsOk p i p[i].body
theorem knR_ok {p : List Pr} (hp : PrsOk p) (hv : ValidP p) : ∀ n, n ≤ p.length → (knR p n).length = n ∧ KnOk (knR p n)
  | 0, _ => ⟨rfl, ⟨by simp [knR], by simp [knR], by simp [knR]⟩⟩
  | n + 1, h => by
    obtain ⟨h1, h2⟩ := knR_ok hp hv n (by omega)
    rw [knR_succ (by omega)]
    have hm := List.getElem_mem (show n < p.length by omega)
    have he := exp_ok p (knR p n) h2 _ p[n].body (Nat.lt_succ_self _) (hp.bd _ hm) (by rw [h1]; exact hv n (by omega))
    unfold knStep
    refine ⟨by simp [h1], ⟨fun x hx => ?_, fun x hx hn => ?_, fun x hx => ?_⟩⟩
    all_goals rcases List.mem_append.1 hx with hx | hx
    · exact h2.r x hx
    · simp only [List.mem_singleton] at hx
      subst hx
      split
      · rename_i hok; have := he.2 hok; omega
      · simp
    · exact h2.s x hx hn
    · simp only [List.mem_singleton] at hx
      subst hx
      split
      · rename_i hok; exact (he.2 hok).1
      · rename_i hok; rw [if_neg hok] at hn; simp at hn
    · exact h2.m x hx
    · simp only [List.mem_singleton] at hx
      subst hx
      split
      · rename_i hok; exact (he.2 hok).2.2
      · exact zC_sm
def expandR (p : List Pr) (s : ByteArray) : Cm × Int :=
  if (faultR p [] false).2 ≠ 0 then (zC, (faultR p [] false).2) else if placeR p s < 0 then (zC, 4)
  else if 200 < ((knR p ((placeR p s).toNat + 1)).getD (placeR p s).toNat ⟨zC, 0⟩).n then (zC, 3) else (((knR p ((placeR p s).toNat + 1)).getD (placeR p s).toNat ⟨zC, 0⟩).b, 0)
theorem own_calls {p : List Pr} {rs : List ByteArray} {asked : Bool} {at' : Nat} {c : Cm} (h : ownE p rs asked at' c = 0) : c.kind = 10 → 0 ≤ placeR p c.name ∧ placeR p c.name < at' := by
  intro h10
  unfold ownE at h
  by_cases e1 : okB c = false
  · rw [if_pos e1] at h; cases h
  · rw [if_neg e1, if_neg (show ¬ c.kind = 1 by omega), if_pos h10] at h
    by_cases e2 : nameB c.name = false
    · rw [if_pos e2] at h; cases h
    · rw [if_neg e2] at h
      by_cases e3 : placeR p c.name < 0
      · rw [if_pos e3] at h; cases h
      · rw [if_neg e3] at h
        by_cases e4 : (at' : Int) ≤ placeR p c.name
        · rw [if_pos e4] at h; cases h
        · omega
theorem cmdEL_mem {p : List Pr} {rs : List ByteArray} {asked : Bool} {at' : Nat} : ∀ {l : List Cm}, cmdEL p rs asked at' l = 0 → ∀ x ∈ l, cmdE p rs asked at' x = 0
  | y :: r, h, x, hx => by
    rw [cmdEL] at h
    split at h
    · rename_i h1; exact absurd h h1
    · rename_i h1
      rcases List.mem_cons.1 hx with rfl | hx
      · exact Decidable.not_not.1 h1
      · exact cmdEL_mem h x hx
theorem cmd_calls {p : List Pr} {rs : List ByteArray} {asked : Bool} {at' : Nat} : ∀ (n : Nat) (c : Cm), c.size < n → cmdE p rs asked at' c = 0 → CallsOk p at' c ∧ okB c = true
  | 0, c, h, _ => absurd h (Nat.not_lt_zero _)
  | n + 1, c, h, he => by
    rw [cmdE_eq] at he
    split at he
    · rename_i h1; exact absurd he h1
    · rename_i h1
      have h0 := Decidable.not_not.1 h1
      refine ⟨.mk (own_calls h0) fun x hx => (cmd_calls n x (by have := Cm.kid_size hx; omega) (cmdEL_mem he x hx)).1, ?_⟩
      rcases Bool.eq_false_or_eq_true (okB c) with ho | ho
      · exact ho
      · unfold ownE at h0; rw [if_pos ho] at h0; cases h0
theorem faultL_ok {p : List Pr} {rs : List ByteArray} {asked : Bool} : ∀ {l : List Pr} {i : Nat}, (faultL p rs asked l i).2 = 0 → ∀ j (hj : j < l.length), prE p rs asked (i + j) l[j] = 0
  | q :: r, i, h, j, hj => by
    rw [faultL] at h
    split at h
    · rename_i h1; exact absurd h h1
    · rename_i h1
      cases j with
      | zero => exact Decidable.not_not.1 h1
      | succ j =>
        have := faultL_ok h j (by simpa using hj)
        simp only [List.getElem_cons_succ]
        rw [show i + (j + 1) = i + 1 + j by omega]
        exact this
theorem fault_valid {p : List Pr} {rs : List ByteArray} {asked : Bool} (h : (faultR p rs asked).2 = 0) : ValidP p ∧ p.length ≤ 20 ∧ 1 ≤ p.length ∧ ∀ i (hi : i < p.length), prE p rs asked i p[i] = 0 := by
  unfold faultR at h
  split at h
  · cases h
  · split at h
    · cases h
    · have h2 := fun j hj => faultL_ok h j hj
      have h3 : ∀ i (hi : i < p.length), prE p rs asked i p[i] = 0 := fun i hi => by have := h2 i hi; rwa [Nat.zero_add] at this
      refine ⟨fun i hi => ?_, by omega, by omega, h3⟩
      have h4 := h3 i hi
      unfold prE at h4
      split at h4
      · cases h4
      · split at h4
        · cases h4
        · split at h4
          · cases h4
          · exact (cmd_calls _ p[i].body (Nat.lt_succ_self _) h4).1
theorem placeR_lt (p : List Pr) (s : ByteArray) : placeR p s < 0 ∨ (placeR p s).toNat < p.length := by
  unfold placeR
  split
  · rename_i h
    right
    have : p.findIdx (fun q => decide (q.name = s)) < p.length := List.findIdx_lt_length_of_exists (by simpa [hasP] using h)
    omega
  · left; omega
end Go.AM
namespace Go.AM
open Go Go.Proofs
theorem Cm.kind_mk (k n : Int) (s : ByteArray) (l : List Cm) : (Cm.mk k s n l).kind = k := rfl
theorem Cm.name_mk (k n : Int) (s : ByteArray) (l : List Cm) : (Cm.mk k s n l).name = s := rfl
theorem Cm.num_mk (k n : Int) (s : ByteArray) (l : List Cm) : (Cm.mk k s n l).num = n := rfl
theorem Cm.kids_mk (k n : Int) (s : ByteArray) (l : List Cm) : (Cm.mk k s n l).kids = l := rfl
structure AccX where
  i : Nat
  a : Xa
  own : Own
  tok : Nat → Bool
  nt : Nat
structure XInv (p : List Pr) (kn : List Xp) (c : Cm) (mtok : Nat → Bool) (nt0 : Nat) (x : AccX) : Prop where
  i : x.i ≤ c.kids.length
  e : expL p kn (c.kind == 2) (c.kids.take x.i) ⟨[], 1⟩ = (x.a, true)
  k : TK mtok nt0 x.tok x.nt [x.own]
theorem XInv.of {p : List Pr} {kn : List Xp} {c : Cm} {mtok : Nat → Bool} {nt0 : Nat} {i : Nat} {a : Xa} {own : Own} {tok : Nat → Bool} {nt : Nat} (h1 : i ≤ c.kids.length) (h2 : expL p kn (c.kind == 2) (c.kids.take i) ⟨[], 1⟩ = (a, true)) (h3 : TK mtok nt0 tok nt [own]) :
    XInv p kn c mtok nt0 ⟨i, a, own, tok, nt⟩ := ⟨h1, h2, h3⟩
abbrev zRow5 : List AV := [I 0, Sb ⟨#[]⟩, I 0, nilS, I 0]
def stEx (p : List Pr) (kn : List Xp) (c : Cm) (nb : Nat) (box : Nat → Option (List (List AV))) (x : AccX) : AState :=
  ⟨tl [(37, .d (cms c.kids)), (38, I c.kids.length), (39, I x.i), (9, .ptr (nb + 9) 0 0), (6, .ptr (nb + 6) 0 0), (4, .ptr (nb + 4) 0 0), (3, .ptr (nb + 3) 0 0), (2, .d (xps kn))],
    lb nb box [(9, [[I c.kind, Sb c.name, I c.num, .osl 4 (x.a.l.map Cm.cells) x.own, I x.a.n]]), (4, [c.row]), (3, [[.d (prs p)]]), (6, [zRow5])], x.tok, x.nt⟩
set_option maxRecDepth 100000 in
theorem exp_c (p : List Pr) (kn : List Xp) (hp : p.length ≤ 200000000000000) (hk : KnOk kn) : ∀ (n : Nat) (c : Cm), c.size < n → c.Sm → CallsOk p kn.length c → ∀ (tok : Nat → Bool) (nt : Nat),
    DCall Tryz.prog 60 [prsAv p, c.av, .d (xps kn)] tok nt (.tup [(expC p kn c).1.av, B (expC p kn c).2]) tok nt
  | 0, c, hn, _, _, tok, nt => absurd hn (Nat.not_lt_zero _)
  | n + 1, c, hn, hc, hcl, tok, nt => by
    intro box nb
    have ih := fun x (hx : x ∈ c.kids) => exp_c p kn hp hk n x (by have := Cm.kid_size hx; omega) (hc.kid x hx) (hcl.kid x hx)
    have hpl := placeP_c p c.name hp
    have hl := hc.len
    have hE := expC_eq p kn c
    refine sB Tryz.func60 Tryz.ntmps60 ?_
    intro hbox htok
    simp only at hbox htok
    apply AL.start
    have ht0 := TK.start htok
    try (simp)
    repeat (refine sR ?_; simp)
    by_cases h10 : c.kind = 10
    · rw [if_pos h10] at hE
      have hcc := hcl.call h10
      try (simp [h10])
      repeat (refine sR ?_; simp [h10])
      refine sC ?_
      simp
      try (simp)
      repeat (refine sR ?_; simp)
      generalize placeR p c.name = k at *
      have hlt : k.toNat < kn.length := by omega
      have hlt' : k < kn.length := by omega
      have hgd : kn.getD k.toNat ⟨zC, 0⟩ = kn[k.toNat] := by simp [List.getD_eq_getElem?_getD, hlt]
      rw [hgd] at hE
      refine Stop.of_d (hpl _ _) ?_
      simp [hcc.1, hlt, hlt']
      generalize kn[k.toNat] = X at *
      refine sN ?_
      refine AL.region2 follows_Tryz (Nat.le_refl _) (by kernel_rfl) (Side.of (by simp)) ?_
      simp [lk]
      refine sT ?_
      try simp only [AU]
      refine ⟨by simp, sF hbox htok (fun _ h => h) (Nat.le_refl _) ?_⟩
      simp [packA, hE]
    · rw [if_neg h10] at hE
      have b10 : (c.kind == 10) = false := by simp [h10]
      simp only [b10]
      try (simp)
      repeat (first | (refine sR ?_; simp) | (refine sC ?_; simp) | (refine sX ?_; simp only [AU, ↓reduceIte]))
      refine sN ?_
      obtain ⟨R, hR⟩ : ∃ R, expL p kn (c.kind == 2) c.kids ⟨[], 1⟩ = R := ⟨_, rfl⟩
      rw [hR] at hE
      refine AL.loopT (stEx p kn c nb box) (XInv p kn c tok nt) (fun x => c.kids.length - x.i) ⟨0, ⟨[], 1⟩, .full, tok, nt⟩ (XInv.of (Nat.zero_le _) (by simp [expL]) ht0.full)
        (Weaks.mk (Nat.le_refl _) rfl (by simp [ToL, lk]) (by simp [BoxL, lk])) ?_
      rintro ⟨i, a, own, tok1, nt1⟩ S hinv hS
      obtain ⟨hi, he, htk⟩ := hinv
      simp only [stEx] at hS hi he htk ⊢
      subst hS
      have hw := sW (i := i) (by omega)
      have hok := expL_ok p kn hk (c.kind == 2) (c.kids.take i) ⟨[], 1⟩ (fun x hx => ⟨hc.kid x (List.mem_of_mem_take hx), hcl.kid x (List.mem_of_mem_take hx)⟩) (by simp [Cm.sizeL]) (by simp) (by simp) (by rw [he])
      rw [he] at hok
      obtain ⟨o1, o2, o3⟩ := hok
      simp only at o1 o2 o3
      have hal := Cm.len_le a.l
      by_cases hlt : i < c.kids.length
      · have hat := expL_at hlt he
        have hmo := expL_more hlt he
        have ihx := ih _ (List.getElem_mem hlt)
        have hxo := exp_ok p kn hk _ c.kids[i] (Nat.lt_succ_self _) (hc.kid _ (List.getElem_mem hlt)) (hcl.kid _ (List.getElem_mem hlt))
        rw [hR] at hat
        try (simp [hlt])
        repeat (refine sR ?_; simp [hlt])
        refine sC ?_
        simp
        try (simp [hlt, Cm.cells_eq])
        repeat (refine sR ?_; simp [hlt, Cm.cells_eq])
        generalize c.kids[i] = x at *
        refine Stop.of_d (ihx _ _) ?_
        simp
        obtain ⟨X, ok, hX⟩ : ∃ X ok, expC p kn x = (X, ok) := ⟨_, _, rfl⟩
        rw [hX] at hat hmo hxo
        simp only [hX] at hat hmo hxo ⊢
        cases ok
        · rw [if_pos rfl] at hat
          try (simp [lk])
          repeat (first | (refine sR ?_; simp [lk]) | (refine sC ?_; simp [lk]) | (refine sX ?_; simp only [AU, ↓reduceIte]))
          refine sT ?_
          try simp only [AU]
          refine ⟨by simp, sF hbox htok htk.old htk.le ?_⟩
          simp [packA, hE, hat, cms, Cm.kind_mk, Cm.name_mk, Cm.num_mk, Cm.kids_mk, Cm.cells_eq]
        · rw [if_neg (by simp)] at hat
          obtain ⟨x1, x2, x3⟩ := hxo.2 rfl
          have hx0 := hxo.1
          have hxl := x3.len
          have hxz := X.b.size_eq
          have hxk := Cm.len_le X.b.kids
          by_cases k2 : c.kind = 2
          · by_cases y2 : X.b.kind = 2
            · have hst : xStep (c.kind == 2) a X = ⟨a.l ++ X.b.kids, a.n + (X.n - 1)⟩ := by simp [xStep, k2, y2]
              have w1 : IntKind.i64.wrap (X.n - 1) = X.n - 1 := wrap_in (by omega) (by omega)
              have w2 : IntKind.i64.wrap (a.n + (X.n - 1)) = a.n + (X.n - 1) := wrap_in (by omega) (by omega)
              try (simp [lk, k2, y2])
              repeat (first | (refine sR ?_; simp [lk, k2, y2]) | (refine sC ?_; simp [lk, k2, y2]) | (refine sX ?_; simp only [AU, ↓reduceIte]))
              refine ⟨⟨by omega, htk.live⟩, ?_⟩
              try (simp [lk, w1, w2])
              repeat (refine sR ?_; simp [lk, w1, w2])
              by_cases g2 : 200 < a.n + (X.n - 1)
              · have g2' : a.n + (X.n - 1) > 200 := g2
                rw [hst, if_pos g2] at hat
                try (simp [lk, g2])
                repeat (first | (refine sR ?_; simp [lk, g2]) | (refine sC ?_; simp [lk, g2]) | (refine sX ?_; simp only [AU, ↓reduceIte]))
                refine sT ?_
                try simp only [AU]
                refine ⟨by simp, sF hbox htok (htk.app).old (htk.app).le ?_⟩
                simp [packA, hE, hat, k2, cms, Cm.kind_mk, Cm.name_mk, Cm.num_mk, Cm.kids_mk, Cm.cells_eq]
              · have hmm := hmo (by simp) (by rw [hst]; exact g2)
                rw [hst] at hmm
                try (simp [lk, g2, hw])
                repeat (first | (refine sR ?_; simp [lk, g2, hw]) | (refine sC ?_; simp [lk, g2, hw]) | (refine sX ?_; simp only [AU, ↓reduceIte]))
                refine sE ?_
                exact ⟨⟨i + 1, ⟨a.l ++ X.b.kids, a.n + (X.n - 1)⟩, .tok nt1, upd (own.kill tok1) nt1 true, nt1 + 1⟩, XInv.of hlt hmm htk.app, by simp only; omega, Weaks.mk (by have := htk.le; omega) rfl (by simp [stEx, ToL, lk]) (by simp [stEx, BoxL, lk, Cm.cells_eq])⟩
            · have y2' : (X.b.kind == 2) = false := by simp [y2]
              have hst : xStep (c.kind == 2) a X = ⟨a.l ++ [X.b], a.n + X.n⟩ := by simp [xStep, y2]
              have w2 : IntKind.i64.wrap (a.n + X.n) = a.n + X.n := wrap_in (by omega) (by omega)
              try (simp [lk, k2, y2'])
              repeat (first | (refine sR ?_; simp [lk, k2, y2']) | (refine sC ?_; simp [lk, k2, y2']) | (refine sX ?_; simp only [AU, ↓reduceIte]))
              refine ⟨⟨by omega, htk.live⟩, ?_⟩
              try (simp [lk, w2])
              repeat (refine sR ?_; simp [lk, w2])
              by_cases g2 : 200 < a.n + X.n
              · have g2' : a.n + X.n > 200 := g2
                rw [hst, if_pos g2] at hat
                try (simp [lk, g2])
                repeat (first | (refine sR ?_; simp [lk, g2]) | (refine sC ?_; simp [lk, g2]) | (refine sX ?_; simp only [AU, ↓reduceIte]))
                refine sT ?_
                try simp only [AU]
                refine ⟨by simp, sF hbox htok (htk.app).old (htk.app).le ?_⟩
                simp [packA, hE, hat, k2, cms, Cm.kind_mk, Cm.name_mk, Cm.num_mk, Cm.kids_mk, Cm.cells_eq]
              · have hmm := hmo (by simp) (by rw [hst]; exact g2)
                rw [hst] at hmm
                try (simp [lk, g2, hw])
                repeat (first | (refine sR ?_; simp [lk, g2, hw]) | (refine sC ?_; simp [lk, g2, hw]) | (refine sX ?_; simp only [AU, ↓reduceIte]))
                refine sE ?_
                exact ⟨⟨i + 1, ⟨a.l ++ [X.b], a.n + X.n⟩, .tok nt1, upd (own.kill tok1) nt1 true, nt1 + 1⟩, XInv.of hlt hmm htk.app, by simp only; omega, Weaks.mk (by have := htk.le; omega) rfl (by simp [stEx, ToL, lk]) (by simp [stEx, BoxL, lk, Cm.cells_eq])⟩
          · have k2' : (c.kind == 2) = false := by simp [k2]
            have hst : xStep (c.kind == 2) a X = ⟨a.l ++ [X.b], a.n + X.n⟩ := by simp [xStep, k2]
            have w2 : IntKind.i64.wrap (a.n + X.n) = a.n + X.n := wrap_in (by omega) (by omega)
            try (simp [lk, k2'])
            repeat (first | (refine sR ?_; simp [lk, k2']) | (refine sC ?_; simp [lk, k2']) | (refine sX ?_; simp only [AU, ↓reduceIte]))
            refine ⟨⟨by omega, htk.live⟩, ?_⟩
            try (simp [lk, w2])
            repeat (refine sR ?_; simp [lk, w2])
            by_cases g2 : 200 < a.n + X.n
            · have g2' : a.n + X.n > 200 := g2
              rw [hst, if_pos g2] at hat
              try (simp [lk, g2])
              repeat (first | (refine sR ?_; simp [lk, g2]) | (refine sC ?_; simp [lk, g2]) | (refine sX ?_; simp only [AU, ↓reduceIte]))
              refine sT ?_
              try simp only [AU]
              refine ⟨by simp, sF hbox htok (htk.app).old (htk.app).le ?_⟩
              simp [packA, hE, hat, cms, Cm.kind_mk, Cm.name_mk, Cm.num_mk, Cm.kids_mk, Cm.cells_eq]
            · have hmm := hmo (by simp) (by rw [hst]; exact g2)
              rw [hst] at hmm
              try (simp [lk, g2, hw])
              repeat (first | (refine sR ?_; simp [lk, g2, hw]) | (refine sC ?_; simp [lk, g2, hw]) | (refine sX ?_; simp only [AU, ↓reduceIte]))
              refine sE ?_
              exact ⟨⟨i + 1, ⟨a.l ++ [X.b], a.n + X.n⟩, .tok nt1, upd (own.kill tok1) nt1 true, nt1 + 1⟩, XInv.of hlt hmm htk.app, by simp only; omega, Weaks.mk (by have := htk.le; omega) rfl (by simp [stEx, ToL, lk]) (by simp [stEx, BoxL, lk, Cm.cells_eq])⟩
      · have : i = c.kids.length := by omega
        subst this
        rw [List.take_length, hR] at he
        rw [he] at hE
        try (simp [hlt])
        repeat (refine sR ?_; simp [hlt])
        refine sC ?_
        simp
        refine sX ?_
        simp only [AU, ↓reduceIte]
        try (simp [lk])
        repeat (refine sR ?_; simp [lk])
        refine sT ?_
        try simp only [AU]
        refine ⟨by simp, sF hbox htok htk.old htk.le ?_⟩
        simp [packA, hE, cms, Cm.kind_mk, Cm.name_mk, Cm.num_mk, Cm.kids_mk, Cm.cells_eq]
end Go.AM
namespace Go.AM
open Go Go.Proofs
def stEp (p : List Pr) (k nb : Nat) (box : Nat → Option (List (List AV))) (x : Acc) : AState :=
  ⟨tl [(33, .d (.sl 5 ((p.map Pr.cells).take (k + 1)))), (34, I ((k : Int) + 1)), (35, I x.i), (9, .osl 5 ((knR p x.i).map Xp.cells) x.own), (8, I k), (4, .ptr (nb + 4) 0 0), (2, .ptr (nb + 2) 0 0)],
    lb nb box [(2, [[.d (prs p)]]), (4, [zRow46])], x.tok, x.nt⟩
set_option maxRecDepth 100000 in
theorem expand_c (p : List Pr) (s : ByteArray) (hp : PrsOk p) (tok : Nat → Bool) (nt : Nat) : DCall Tryz.prog 23 [prsAv p, Sb s] tok nt (.tup [(expandR p s).1.av, I (expandR p s).2]) tok nt := by
  intro box nb
  have hpl := placeP_c p s hp.len
  have hfc := fault_c p [] false hp (by simp)
  have hrg := placeR_lt p s
  have hval := fault_valid (p := p) (rs := []) (asked := false)
  obtain ⟨N, hN⟩ : ∃ N, expandR p s = N := ⟨_, rfl⟩
  rw [hN]
  unfold expandR at hN
  generalize faultR p [] false = F at *
  refine sB Tryz.func23 Tryz.ntmps23 ?_
  intro hbox htok
  simp only at hbox htok
  apply AL.start
  have ht0 := TK.start htok
  try (simp)
  repeat (refine sR ?_; simp)
  refine Stop.sub (args' := [prsAv p, .d (rules46 []), B false]) ⟨Sub.refl _, Sub.nil _ _ _, Sub.refl _, trivial⟩ ?_
  refine Stop.of_d (hfc _ _) ?_
  simp
  by_cases he : F.2 = 0
  · have be : (F.2 != 0) = false := by simp [he]
    rw [if_neg (by simp [he])] at hN
    obtain ⟨hv, h20, h1, _⟩ := hval he
    try (simp [be])
    repeat (first | (refine sR ?_; simp [be]) | (refine sC ?_; simp [be]) | (refine sX ?_; simp only [AU, ↓reduceIte]))
    refine Stop.of_d (hpl _ _) ?_
    simp
    by_cases hk : placeR p s < 0
    · rw [if_pos hk] at hN
      try (simp [hk])
      repeat (first | (refine sR ?_; simp [hk]) | (refine sC ?_; simp [hk]) | (refine sX ?_; simp only [AU, ↓reduceIte]))
      refine sT ?_
      try simp only [AU]
      refine ⟨by simp, sF hbox htok (fun _ h => h) (Nat.le_refl _) ?_⟩
      simp [packA, ← hN, zC, Cm.kind_mk, Cm.name_mk, Cm.num_mk, Cm.kids_mk, cms]
    · rw [if_neg hk] at hN
      obtain ⟨k, hkk⟩ : ∃ k : Nat, placeR p s = k := ⟨(placeR p s).toNat, by omega⟩
      rw [hkk] at hN hrg ⊢
      rw [Int.toNat_natCast] at hN hrg
      have hkl : k < p.length := by omega
      have hkl1 : (k : Int) + 1 ≤ p.length := by omega
      have hkl2 : k + 1 ≤ p.length := by omega
      have hk0 : (0 : Int) ≤ (k : Int) + 1 := by omega
      have hkt : ((k : Int) + 1).toNat = k + 1 := by omega
      have hwk : IntKind.i64.wrap ((k : Int) + 1) = ((k + 1 : Nat) : Int) := by rw [wrap_in (by omega) (by omega)]; rfl
      have hnk : ¬ (k : Int) < 0 := by omega
      try (simp [hnk, hwk, hkl1, hkl2, hk0, hkt])
      repeat (first | (refine sR ?_; simp [hnk, hwk, hkl1, hkl2, hk0, hkt]) | (refine sC ?_; simp [hnk, hwk, hkl1, hkl2, hk0, hkt]) | (refine sX ?_; simp only [AU, ↓reduceIte]))
      refine sN ?_
      refine AL.loopT (stEp p k nb box) (fun x => x.i ≤ k + 1 ∧ TK tok nt x.tok x.nt [x.own]) (fun x => k + 1 - x.i) ⟨0, .full, tok, nt⟩ ⟨Nat.zero_le _, ht0.full⟩
        (Weaks.mk (Nat.le_refl _) rfl (by simp [ToL, lk, knR]) (by simp [BoxL, lk])) ?_
      rintro ⟨i, own, tok1, nt1⟩ S ⟨hi, htk⟩ hS
      simp only [stEp] at hS hi htk ⊢
      subst hS
      have hw := sW (i := i) (by omega)
      by_cases hlt : i < k + 1
      · have hlt' : (i : Int) < (k : Int) + 1 := by omega
        have hip : i < p.length := by omega
        have hm := List.getElem_mem hip
        obtain ⟨hkl3, hko⟩ := knR_ok hp hv i (by omega)
        have hx := exp_c p (knR p i) hp.len hko _ p[i].body (Nat.lt_succ_self _) (hp.bd _ hm) (by rw [hkl3]; exact hv i hip)
        have hst := knR_succ hip
        unfold knStep at hst
        generalize knR p i = K at *
        try (simp [hlt, hlt', hip])
        repeat (refine sR ?_; simp [hlt, hlt', hip])
        refine sC ?_
        simp [hlt']
        try (simp [hlt, hlt', hip])
        repeat (refine sR ?_; simp [hlt, hlt', hip])
        refine ⟨by omega, ?_⟩
        try (simp [hlt, hlt', hip])
        repeat (refine sR ?_; simp [hlt, hlt', hip])
        generalize p[i] = q at *
        refine Stop.data ?_
        refine Stop.of_d (hx _ _) ?_
        simp
        obtain ⟨X, ok, hX⟩ : ∃ X ok, expC p K q.body = (X, ok) := ⟨_, _, rfl⟩
        simp only [hX] at hst ⊢
        cases ok
        · simp only [Bool.false_eq_true, if_false] at hst
          try (simp [lk])
          repeat (first | (refine sR ?_; simp [lk]) | (refine sC ?_; simp [lk]) | (refine sX ?_; simp only [AU, ↓reduceIte]))
          refine ⟨⟨by omega, htk.live⟩, ?_⟩
          try (simp [hw])
          repeat (first | (refine sR ?_; simp [hw]) | (refine sC ?_; simp [hw]) | (refine sX ?_; simp only [AU, ↓reduceIte]))
          refine sE ?_
          refine ⟨⟨i + 1, .tok nt1, upd (own.kill tok1) nt1 true, nt1 + 1⟩, ⟨hlt, htk.app⟩, by simp only; omega, ?_⟩
          simp only [stEp, hst]
          refine Weaks.mk (by have := htk.le; omega) rfl ?_ (by simp [BoxL, lk])
          simp [ToL, lk]
          refine to_snoc ?_ _
          simp [zC, Cm.kind_mk, Cm.name_mk, Cm.num_mk, Cm.kids_mk, cms]
        · simp only [if_true] at hst
          try (simp [lk])
          repeat (first | (refine sR ?_; simp [lk]) | (refine sC ?_; simp [lk]) | (refine sX ?_; simp only [AU, ↓reduceIte]))
          refine ⟨⟨by omega, htk.live⟩, ?_⟩
          try (simp [hw])
          repeat (first | (refine sR ?_; simp [hw]) | (refine sC ?_; simp [hw]) | (refine sX ?_; simp only [AU, ↓reduceIte]))
          refine sE ?_
          refine ⟨⟨i + 1, .tok nt1, upd (own.kill tok1) nt1 true, nt1 + 1⟩, ⟨hlt, htk.app⟩, by simp only; omega, ?_⟩
          simp only [stEp, hst]
          exact Weaks.mk (by have := htk.le; omega) rfl (by simp [ToL, lk]) (by simp [BoxL, lk])
      · have : i = k + 1 := by omega
        subst this
        have hlt' : ¬ ((k + 1 : Nat) : Int) < (k : Int) + 1 := by omega
        obtain ⟨hkl3, hko⟩ := knR_ok hp hv (k + 1) (by omega)
        generalize knR p (k + 1) = K at *
        have hkK : k < K.length := by omega
        have hkK' : (k : Int) < K.length := by omega
        have hgd : K.getD k ⟨zC, 0⟩ = K[k] := by simp [List.getD_eq_getElem?_getD, hkK]
        rw [hgd] at hN
        generalize hKk : K[k] = X at *
        have hat : (K.map Xp.cells)[k]? = some X.cells := by simp [hkK, hKk]
        try (simp [hlt'])
        repeat (refine sR ?_; simp [hlt'])
        refine sC ?_
        simp [hlt']
        refine sX ?_
        simp only [AU, ↓reduceIte]
        try (simp [hkK, hkK', hKk])
        repeat (refine sR ?_; simp [hkK, hkK', hKk])
        by_cases h2 : 200 < X.n
        · rw [if_pos h2] at hN
          refine sC ?_
          simp [h2]
          try (simp [hkK, hkK', hKk])
          repeat (refine sR ?_; simp [hkK, hkK', hKk])
          refine sT ?_
          try simp only [AU]
          refine ⟨by simp, sF hbox htok htk.old htk.le ?_⟩
          simp [packA, ← hN, zC, Cm.kind_mk, Cm.name_mk, Cm.num_mk, Cm.kids_mk, cms]
        · rw [if_neg h2] at hN
          refine sC ?_
          simp [h2]
          try (simp [hkK, hkK', hKk])
          repeat (refine sR ?_; simp [hkK, hkK', hKk])
          refine sT ?_
          try simp only [AU]
          refine ⟨by simp, sF hbox htok htk.old htk.le ?_⟩
          simp [packA, ← hN]
  · have be : (F.2 != 0) = true := by simp [he]
    rw [if_pos he] at hN
    try (simp [be])
    repeat (first | (refine sR ?_; simp [be]) | (refine sC ?_; simp [be]) | (refine sX ?_; simp only [AU, ↓reduceIte]))
    refine sT ?_
    try simp only [AU]
    refine ⟨by simp, sF hbox htok (fun _ h => h) (Nat.le_refl _) ?_⟩
    simp [packA, ← hN, zC, Cm.kind_mk, Cm.name_mk, Cm.num_mk, Cm.kids_mk, cms]
end Go.AM
namespace Go.AM
open Go Go.Proofs
def stRm (c : Cm) (lev : Nat) (nb : Nat) (box : Nat → Option (List (List AV))) (tok : Nat → Bool) (nt : Nat) (i : Nat) : AState :=
  ⟨tl [(1, I lev), (6, I (Cm.rmL (c.kids.take i) lev (1, 1)).1), (7, I (Cm.rmL (c.kids.take i) lev (1, 1)).2), (8, I i), (2, .ptr (nb + 2) 0 0)], lb nb box [(2, [c.row])], tok, nt⟩
set_option maxRecDepth 100000 in
theorem measure46_c : ∀ (n : Nat) (c : Cm), c.size < n → c.size ≤ 1000000 → ∀ (lev : Nat), lev ≤ 1000 → ∀ (tok : Nat → Bool) (nt : Nat), DCall Tryz.prog 89 [c.av, I lev] tok nt (.tup [I (c.rm lev).1, I (c.rm lev).2]) tok nt
  | 0, c, hn, _, _, _, tok, nt => absurd hn (Nat.not_lt_zero _)
  | n + 1, c, hn, hb, lev, hl, tok, nt => by
    intro box nb
    have ih := fun x (hx : x ∈ c.kids) => measure46_c n x (by have := Cm.kid_size hx; omega) (by have := Cm.kid_size hx; omega)
    have hkl := c.kids_len
    have hsz := c.size_eq
    have hdp := c.depth_eq
    have hds := c.depth_le_size _ (Nat.lt_succ_self _)
    have hbd : ∀ i, (Cm.rmL (c.kids.take i) lev (1, 1)).1 ≤ 1000000 ∧ (Cm.rmL (c.kids.take i) lev (1, 1)).2 ≤ 1000000 := fun i => by
      have h1 := Cm.rmL_le (lev := lev) (c.kids.take i) (1, 1) fun x hx => Cm.rm_le _ x (Nat.lt_succ_self _) (lev + 1)
      have h2 := Cm.sizeL_take_le c.kids i
      have h3 := Cm.depthL_take_le c.kids i
      simp only at h1
      omega
    have hkb : ∀ x ∈ c.kids, ∀ lev, (x.rm lev).1 ≤ 1000000 ∧ (x.rm lev).2 ≤ 1000000 := fun x hx lev => by
      have h1 := Cm.rm_le _ x (Nat.lt_succ_self _) lev
      have h2 := Cm.kid_size hx
      have h3 := x.depth_le_size _ (Nat.lt_succ_self _)
      omega
    have hR := c.rm_eq lev
    refine sB Tryz.func89 Tryz.ntmps89 ?_
    intro hbox htok
    simp only at hbox htok
    apply AL.start
    try (simp)
    repeat (refine sR ?_; simp)
    refine sN ?_
    refine AL.loopT (stRm c lev nb box tok nt) (fun i => i ≤ c.kids.length) (fun i => c.kids.length - i) 0 (Nat.zero_le _) (Weaks.mk (Nat.le_refl _) rfl (by simp [ToL, lk, Cm.rmL]) (by simp [BoxL, lk])) ?_
    rintro i S hi hS
    simp only [stRm] at hS
    subst hS
    have hw := sW (i := i) (by omega)
    have hbi := hbd i
    by_cases hlt : i < c.kids.length
    · by_cases hg : (Cm.rmL (c.kids.take i) lev (1, 1)).1 ≤ 60 ∧ lev ≤ 6
      · have ihx := ih _ (List.getElem_mem hlt) (lev + 1) (by omega)
        have hst := Cm.rmL_take (a := (1, 1)) hlt hg
        have hb2 := hbd (i + 1)
        have hkx := hkb _ (List.getElem_mem hlt) (lev + 1)
        have hwl : IntKind.i64.wrap ((lev : Int) + 1) = ((lev + 1 : Nat) : Int) := by rw [wrap_in (by omega) (by omega)]; rfl
        have g1 : (((Cm.rmL (c.kids.take i) lev (1, 1)).1 : Nat) : Int) ≤ 60 := by omega
        have g2 : (lev : Int) ≤ 6 := by omega
        try (simp [hlt, g1, g2])
        repeat (refine sR ?_; simp [hlt, g1, g2])
        refine sC ?_
        simp
        refine sR ?_
        simp [hlt, Cm.cells_eq]
        generalize c.kids[i] = x at *
        rw [hst] at hb2
        have hw2 : IntKind.i64.wrap (((Cm.rmL (c.kids.take i) lev (1, 1)).1 : Int) + ((x.rm (lev + 1)).1 : Int)) = (((Cm.rmL (c.kids.take (i + 1)) lev (1, 1)).1 : Nat) : Int) := by rw [hst, wrap_in (by omega) (by omega)]; simp
        have hw3 : IntKind.i64.wrap (((x.rm (lev + 1)).2 : Int) + 1) = ((x.rm (lev + 1)).2 : Int) + 1 := wrap_in (by omega) (by omega)
        have hm : max ((Cm.rmL (c.kids.take i) lev (1, 1)).2 : Int) (((x.rm (lev + 1)).2 : Int) + 1) = (((Cm.rmL (c.kids.take (i + 1)) lev (1, 1)).2 : Nat) : Int) := by rw [hst]; simp only; omega
        simp only [hwl]
        refine Stop.of_d (ihx _ _) ?_
        simp
        try (simp [hw2, hw3, hm])
        repeat (refine sR ?_; simp [hw2, hw3, hm])
        try (simp [hw])
        repeat (refine sR ?_; simp [hw])
        refine sE ?_
        exact ⟨i + 1, hlt, by omega, Weaks.mk (Nat.le_refl _) rfl (by simp [ToL, lk]) (by simp [BoxL, lk])⟩
      · have hE := Cm.rmL_end (l := c.kids) (a := (1, 1)) hg
        rw [hE] at hR
        by_cases g1 : (((Cm.rmL (c.kids.take i) lev (1, 1)).1 : Nat) : Int) ≤ 60
        · have g2 : ¬ (lev : Int) ≤ 6 := by omega
          try (simp [hlt, g1, g2])
          repeat (refine sR ?_; simp [hlt, g1, g2])
          refine sC ?_
          simp
          refine sX ?_
          simp only [AU, ↓reduceIte]
          try (simp)
          repeat (refine sR ?_; simp)
          refine sT ?_
          try simp only [AU]
          refine ⟨by simp, sF hbox htok (fun _ h => h) (Nat.le_refl _) ?_⟩
          simp [packA, hR]
        · try (simp [hlt, g1])
          repeat (refine sR ?_; simp [hlt, g1])
          refine sC ?_
          simp
          refine sX ?_
          simp only [AU, ↓reduceIte]
          try (simp)
          repeat (refine sR ?_; simp)
          refine sT ?_
          try simp only [AU]
          refine ⟨by simp, sF hbox htok (fun _ h => h) (Nat.le_refl _) ?_⟩
          simp [packA, hR]
    · have : i = c.kids.length := by omega
      subst this
      rw [List.take_length] at *
      try (simp [hlt])
      repeat (refine sR ?_; simp [hlt])
      refine sC ?_
      simp
      refine sX ?_
      simp only [AU, ↓reduceIte]
      try (simp)
      repeat (refine sR ?_; simp)
      refine sT ?_
      try simp only [AU]
      refine ⟨by simp, sF hbox htok (fun _ h => h) (Nat.le_refl _) ?_⟩
      simp [packA, hR]
def kidsZ (c : Cm) : Bool :=
  if c.kind = 2 then (if c.kids.any (fun k => k.kind == 2) = true then false else decide (2 ≤ c.kids.length)) else if c.kind = 3 then decide (2 ≤ c.kids.length) else if c.kind = 4 then decide (c.kids.length = 3)
  else if c.kind = 5 ∨ c.kind = 6 ∨ c.kind = 7 then decide (c.kids.length = 1) else decide (c.kids.length = 0)
theorem okB_kids (c : Cm) : okB c = (decide (1 ≤ c.kind ∧ c.kind ≤ 10) && kidsZ c && (decide (c.kind = 1 ∨ c.kind = 10) || decide (c.name = ⟨#[]⟩)) && (decide (c.kind = 6) || decide (c.num = 0))) := by
  unfold okB kidsZ
  congr 2
  by_cases h2 : c.kind = 2
  · rw [if_pos h2, if_pos h2]
    cases c.kids.any (fun k => k.kind == 2) <;> simp [h2]
  · rw [if_neg h2, if_neg h2]
    by_cases h3 : c.kind = 3
    · simp [h3]
    · rw [if_neg h3, if_neg h3]
      by_cases h4 : c.kind = 4
      · simp [h4]
      · rw [if_neg h4, if_neg h4]
        by_cases h5 : c.kind = 5 ∨ c.kind = 6 ∨ c.kind = 7
        · rw [if_pos h5, if_pos h5]
          have : (1 ≤ c.kind ∧ c.kind ≤ 10) := by omega
          simp [this]
        · rw [if_neg h5, if_neg h5]
          by_cases h6 : c.kind = 1 ∨ c.kind = 8 ∨ c.kind = 9 ∨ c.kind = 10
          · rw [if_pos h6]
            have : (1 ≤ c.kind ∧ c.kind ≤ 10) := by omega
            simp [this]
          · rw [if_neg h6]
            have : ¬ (1 ≤ c.kind ∧ c.kind ≤ 10) := by omega
            simp [this]
def stKi (c : Cm) (nb : Nat) (box : Nat → Option (List (List AV))) (tok : Nat → Bool) (nt : Nat) (i : Nat) : AState :=
  ⟨tl [(3, I c.kids.length), (4, I i), (1, .ptr (nb + 1) 0 0)], lb nb box [(1, [c.row])], tok, nt⟩
set_option maxRecDepth 100000 in
theorem kids46_c (c : Cm) (hl : c.kids.length ≤ 200000000000000) (tok : Nat → Bool) (nt : Nat) : DCall Tryz.prog 135 [c.av] tok nt (B (kidsZ c)) tok nt := by
  intro box nb
  obtain ⟨N, hN⟩ : ∃ N, kidsZ c = N := ⟨_, rfl⟩
  rw [hN]
  unfold kidsZ at hN
  refine sB Tryz.func135 Tryz.ntmps135 ?_
  intro hbox htok
  simp only at hbox htok
  apply AL.start
  try (simp)
  repeat (refine sR ?_; simp)
  by_cases k2 : c.kind = 2
  · rw [if_pos k2] at hN
    try (simp [k2])
    repeat (first | (refine sR ?_; simp [k2]) | (refine sC ?_; simp [k2]) | (refine sX ?_; simp only [AU, ↓reduceIte]))
    refine sN ?_
    refine AL.loopT (stKi c nb box tok nt) (fun i => i ≤ c.kids.length ∧ ∀ x ∈ c.kids.take i, (x.kind == 2) = false) (fun i => c.kids.length - i) 0 ⟨Nat.zero_le _, by simp⟩ (Weaks.mk (Nat.le_refl _) rfl (by simp [ToL, lk]) (by simp [BoxL, lk])) ?_
    rintro i S ⟨hi, htk⟩ hS
    simp only [stKi] at hS
    subst hS
    have hw := sW (i := i) (by omega)
    by_cases hlt : i < c.kids.length
    · have hpx : (c.kids[i].kind == 2) = true → c.kids.any (fun k => k.kind == 2) = true := fun he => (any_takeG (p := fun k : Cm => k.kind == 2) hlt htk he).1
      have hmore : (c.kids[i].kind == 2) = false → ∀ x ∈ c.kids.take (i + 1), (x.kind == 2) = false := fun he x hx => by
        rw [List.take_succ_eq_append_getElem hlt] at hx
        rcases List.mem_append.1 hx with hx | hx
        · exact htk x hx
        · simp at hx; rw [hx]; exact he
      cases e : (c.kids[i].kind == 2)
      · try (simp [hlt, Cm.cells_eq, e, hw])
        repeat (first | (refine sR ?_; simp [hlt, Cm.cells_eq, e, hw]) | (refine sC ?_; simp [hlt, Cm.cells_eq, e, hw]) | (refine sX ?_; simp only [AU, ↓reduceIte]))
        refine sE ?_
        exact ⟨i + 1, ⟨hlt, by simpa using hmore e⟩, by omega, Weaks.mk (Nat.le_refl _) rfl (by simp [ToL, lk]) (by simp [BoxL, lk])⟩
      · rw [if_pos (hpx e)] at hN
        try (simp [hlt, Cm.cells_eq, e, hw])
        repeat (first | (refine sR ?_; simp [hlt, Cm.cells_eq, e, hw]) | (refine sC ?_; simp [hlt, Cm.cells_eq, e, hw]) | (refine sX ?_; simp only [AU, ↓reduceIte]))
        refine sT ?_
        try simp only [AU]
        refine ⟨by simp, sF hbox htok (fun _ h => h) (Nat.le_refl _) ?_⟩
        simp [packA, ← hN]
    · have hn : c.kids.any (fun k => k.kind == 2) = false := by
        rw [List.take_of_length_le (by omega)] at htk
        simpa using htk
      rw [if_neg (by simp [hn])] at hN
      have hq : decide ((2 : Int) ≤ c.kids.length) = decide (2 ≤ c.kids.length) := by rw [Bool.eq_iff_iff]; simp; omega
      try (simp [hlt])
      repeat (refine sR ?_; simp [hlt])
      refine sC ?_
      simp
      refine sX ?_
      simp only [AU, ↓reduceIte]
      try (simp)
      repeat (refine sR ?_; simp)
      refine sT ?_
      try simp only [AU]
      refine ⟨by simp, sF hbox htok (fun _ h => h) (Nat.le_refl _) ?_⟩
      simp [packA, ← hN, hq]
  · rw [if_neg k2] at hN
    have b2 : (c.kind == 2) = false := by simp [k2]
    by_cases k3 : c.kind = 3
    · rw [if_pos k3] at hN
      have hq : decide ((2 : Int) ≤ c.kids.length) = decide (2 ≤ c.kids.length) := by rw [Bool.eq_iff_iff]; simp; omega
      try (simp [k2, b2, k3])
      repeat (first | (refine sR ?_; simp [k2, b2, k3]) | (refine sC ?_; simp [k2, b2, k3]) | (refine sX ?_; simp only [AU, ↓reduceIte]))
      refine sT ?_
      try simp only [AU]
      refine ⟨by simp, sF hbox htok (fun _ h => h) (Nat.le_refl _) ?_⟩
      simp [packA, ← hN, hq]
    · rw [if_neg k3] at hN
      have b3 : (c.kind == 3) = false := by simp [k3]
      by_cases k4 : c.kind = 4
      · rw [if_pos k4] at hN
        have hq : ((c.kids.length : Int) == 3) = decide (c.kids.length = 3) := by rw [Bool.eq_iff_iff]; simp; omega
        try (simp [k2, b2, k4])
        repeat (first | (refine sR ?_; simp [k2, b2, k4]) | (refine sC ?_; simp [k2, b2, k4]) | (refine sX ?_; simp only [AU, ↓reduceIte]))
        refine sT ?_
        try simp only [AU]
        refine ⟨by simp, sF hbox htok (fun _ h => h) (Nat.le_refl _) ?_⟩
        simp [packA, ← hN, hq]
      · rw [if_neg k4] at hN
        have b4 : (c.kind == 4) = false := by simp [k4]
        have hq : ((c.kids.length : Int) == 1) = decide (c.kids.length = 1) := by rw [Bool.eq_iff_iff]; simp; omega
        by_cases k5 : c.kind = 5
        · rw [if_pos (.inl k5)] at hN
          try (simp [k2, b2, k5])
          repeat (first | (refine sR ?_; simp [k2, b2, k5]) | (refine sC ?_; simp [k2, b2, k5]) | (refine sX ?_; simp only [AU, ↓reduceIte]))
          refine sT ?_
          try simp only [AU]
          refine ⟨by simp, sF hbox htok (fun _ h => h) (Nat.le_refl _) ?_⟩
          simp [packA, ← hN, hq]
        · have b5 : (c.kind == 5) = false := by simp [k5]
          by_cases k6 : c.kind = 6
          · rw [if_pos (.inr (.inl k6))] at hN
            try (simp [k2, b2, k6])
            repeat (first | (refine sR ?_; simp [k2, b2, k6]) | (refine sC ?_; simp [k2, b2, k6]) | (refine sX ?_; simp only [AU, ↓reduceIte]))
            refine sT ?_
            try simp only [AU]
            refine ⟨by simp, sF hbox htok (fun _ h => h) (Nat.le_refl _) ?_⟩
            simp [packA, ← hN, hq]
          · have b6 : (c.kind == 6) = false := by simp [k6]
            by_cases k7 : c.kind = 7
            · rw [if_pos (.inr (.inr k7))] at hN
              try (simp [k2, b2, k7])
              repeat (first | (refine sR ?_; simp [k2, b2, k7]) | (refine sC ?_; simp [k2, b2, k7]) | (refine sX ?_; simp only [AU, ↓reduceIte]))
              refine sT ?_
              try simp only [AU]
              refine ⟨by simp, sF hbox htok (fun _ h => h) (Nat.le_refl _) ?_⟩
              simp [packA, ← hN, hq]
            · have b7 : (c.kind == 7) = false := by simp [k7]
              have hq : ((c.kids.length : Int) == 0) = decide (c.kids.length = 0) := by rw [Bool.eq_iff_iff]; simp
              rw [if_neg (by omega)] at hN
              try (simp [k2, b2, b3, b4, b5, b6, b7, k3, k4, k5, k6, k7])
              repeat (first | (refine sR ?_; simp [k2, b2, b3, b4, b5, b6, b7, k3, k4, k5, k6, k7]) | (refine sC ?_; simp [k2, b2, b3, b4, b5, b6, b7, k3, k4, k5, k6, k7]) | (refine sX ?_; simp only [AU, ↓reduceIte]))
              refine sT ?_
              try simp only [AU]
              refine ⟨by simp, sF hbox htok (fun _ h => h) (Nat.le_refl _) ?_⟩
              simp [packA, ← hN, hq]
theorem named46_c (k : Int) (tok : Nat → Bool) (nt : Nat) : DCall Tryz.prog 136 [I k] tok nt (B (decide (k = 1 ∨ k = 10))) tok nt := by
  intro box nb
  by_cases h1 : k = 1
  · refine sB Tryz.func136 Tryz.ntmps136 ?_
    intro hbox htok
    simp only at hbox htok
    apply AL.start
    try (simp [h1])
    repeat (refine sR ?_; simp [h1])
    refine sT ?_
    try simp only [AU]
    refine ⟨by simp, sF hbox htok (fun _ h => h) (Nat.le_refl _) ?_⟩
    simp [packA, h1]
  · have b1 : (k == 1) = false := by simp [h1]
    refine sB Tryz.func136 Tryz.ntmps136 ?_
    intro hbox htok
    simp only at hbox htok
    apply AL.start
    try (simp [b1])
    repeat (refine sR ?_; simp [b1])
    refine sT ?_
    try simp only [AU]
    refine ⟨by simp, sF hbox htok (fun _ h => h) (Nat.le_refl _) ?_⟩
    simp [packA, h1, beqD]
def stPl (p : List Pr) (s : ByteArray) (nb : Nat) (box : Nat → Option (List (List AV))) (tok : Nat → Bool) (nt : Nat) (i : Nat) : AState :=
  ⟨tl [(5, I i), (1, Sb s), (2, .ptr (nb + 2) 0 0)], lb nb box [(2, [[.d (prs p)]])], tok, nt⟩
theorem place46_c (p : List Pr) (s : ByteArray) (hx : p.length ≤ 200000000000000) (tok : Nat → Bool) (nt : Nat) : DCall Tryz.prog 59 [prsAv p, Sb s] tok nt (I (placeR p s)) tok nt := by
  intro box nb
  refine sB Tryz.func59 Tryz.ntmps59 ?_
  intro hbox htok
  simp only at hbox htok
  apply AL.start
  try (simp)
  repeat (refine sR ?_; simp)
  refine sN ?_
  refine AL.loopT (stPl p s nb box tok nt) (fun i => i ≤ p.length ∧ ∀ x ∈ p.take i, decide (x.name = s) = false) (fun i => p.length - i) 0 ⟨Nat.zero_le _, by simp⟩ (Weaks.mk (Nat.le_refl _) rfl (by simp [ToL, lk]) (by simp [BoxL, lk])) ?_
  rintro i S ⟨hi, htk⟩ hS
  simp only [stPl] at hS
  subst hS
  have hw := sW (i := i) (by omega)
  by_cases hlt : i < p.length
  · have hpx : decide (p[i].name = s) = true → hasP p s = true ∧ p.findIdx (fun q => decide (q.name = s)) = i := fun he => any_takeG (p := fun q : Pr => decide (q.name = s)) hlt htk he
    have hmore : decide (p[i].name = s) = false → ∀ x ∈ p.take (i + 1), decide (x.name = s) = false := fun he x hx => by
      rw [List.take_succ_eq_append_getElem hlt] at hx
      rcases List.mem_append.1 hx with hx | hx
      · exact htk x hx
      · simp at hx; rw [hx]; exact he
    have hsq := seq_dec p[i].name s
    cases e : decide (p[i].name = s)
    · rw [e] at hsq
      try (simp [hlt, hsq, hw])
      repeat (first | (refine sR ?_; simp [hlt, hsq, hw]) | (refine sC ?_; simp [hlt, hsq, hw]) | (refine sX ?_; simp only [AU, ↓reduceIte]))
      refine sE ?_
      exact ⟨i + 1, ⟨hlt, by simpa using hmore e⟩, by omega, Weaks.mk (Nat.le_refl _) rfl (by simp [ToL, lk]) (by simp [BoxL, lk])⟩
    · rw [e] at hsq
      obtain ⟨h1, h2⟩ := hpx e
      try (simp [hlt, hsq, hw])
      repeat (first | (refine sR ?_; simp [hlt, hsq, hw]) | (refine sC ?_; simp [hlt, hsq, hw]) | (refine sX ?_; simp only [AU, ↓reduceIte]))
      refine sT ?_
      try simp only [AU]
      refine ⟨by simp, sF hbox htok (fun _ h => h) (Nat.le_refl _) ?_⟩
      simp [packA, placeR, h1, h2]
  · have hn : hasP p s = false := by
      rw [List.take_of_length_le (by omega)] at htk
      simpa [hasP] using htk
    try (simp [hlt])
    repeat (refine sR ?_; simp [hlt])
    refine sC ?_
    simp
    refine sX ?_
    simp only [AU, ↓reduceIte]
    try (simp)
    repeat (refine sR ?_; simp)
    refine sT ?_
    try simp only [AU]
    refine ⟨by simp, sF hbox htok (fun _ h => h) (Nat.le_refl _) ?_⟩
    simp [packA, placeR, hn]
def stIr (rs : List ByteArray) (s : ByteArray) (nb : Nat) (box : Nat → Option (List (List AV))) (tok : Nat → Bool) (nt : Nat) (i : Nat) : AState :=
  ⟨tl [(5, I i), (1, Sb s), (0, .d (strs rs))], lb nb box [], tok, nt⟩
theorem isRule46_c (rs : List ByteArray) (s : ByteArray) (hx : rs.length ≤ 200000000000000) (tok : Nat → Bool) (nt : Nat) : DCall Tryz.prog 137 [.d (strs rs), Sb s] tok nt (B (memS rs s)) tok nt := by
  intro box nb
  refine sB Tryz.func137 Tryz.ntmps137 ?_
  intro hbox htok
  simp only at hbox htok
  apply AL.start
  try (simp)
  repeat (refine sR ?_; simp)
  refine sN ?_
  refine AL.loopT (stIr rs s nb box tok nt) (fun i => i ≤ rs.length ∧ ∀ x ∈ rs.take i, decide (s = x) = false) (fun i => rs.length - i) 0 ⟨Nat.zero_le _, by simp⟩ (Weaks.mk (Nat.le_refl _) rfl (by simp [ToL, lk]) trivial) ?_
  rintro i S ⟨hi, htk⟩ hS
  simp only [stIr] at hS
  subst hS
  have hw := sW (i := i) (by omega)
  by_cases hlt : i < rs.length
  · have hpx : decide (s = rs[i]) = true → memS rs s = true := fun he => (any_takeG (p := fun q : ByteArray => decide (s = q)) hlt htk he).1
    have hmore : decide (s = rs[i]) = false → ∀ x ∈ rs.take (i + 1), decide (s = x) = false := fun he x hx => by
      rw [List.take_succ_eq_append_getElem hlt] at hx
      rcases List.mem_append.1 hx with hx | hx
      · exact htk x hx
      · simp at hx; rw [hx]; exact he
    have hsq : (rs[i].toList == s.toList) = decide (s = rs[i]) := by rw [seq_dec, Bool.eq_iff_iff, decide_eq_true_eq, decide_eq_true_eq]; exact eq_comm
    cases e : decide (s = rs[i])
    · rw [e] at hsq
      try (simp [hlt, hsq, hw])
      repeat (first | (refine sR ?_; simp [hlt, hsq, hw]) | (refine sC ?_; simp [hlt, hsq, hw]) | (refine sX ?_; simp only [AU, ↓reduceIte]))
      refine sE ?_
      exact ⟨i + 1, ⟨hlt, by simpa using hmore e⟩, by omega, Weaks.mk (Nat.le_refl _) rfl (by simp [ToL, lk]) trivial⟩
    · rw [e] at hsq
      have h1 := hpx e
      try (simp [hlt, hsq, hw])
      repeat (first | (refine sR ?_; simp [hlt, hsq, hw]) | (refine sC ?_; simp [hlt, hsq, hw]) | (refine sX ?_; simp only [AU, ↓reduceIte]))
      refine sT ?_
      try simp only [AU]
      refine ⟨by simp, sF hbox htok (fun _ h => h) (Nat.le_refl _) ?_⟩
      simp [packA, h1]
  · have hn : memS rs s = false := by
      rw [List.take_of_length_le (by omega)] at htk
      simpa [memS] using htk
    try (simp [hlt])
    repeat (refine sR ?_; simp [hlt])
    refine sC ?_
    simp
    refine sX ?_
    simp only [AU, ↓reduceIte]
    try (simp)
    repeat (refine sR ?_; simp)
    refine sT ?_
    try simp only [AU]
    refine ⟨by simp, sF hbox htok (fun _ h => h) (Nat.le_refl _) ?_⟩
    simp [packA, hn]
end Go.AM
namespace Go.AM
open Go Go.Proofs
def stC6 (c : Cm) (p : List Pr) (rs : List ByteArray) (asked : Bool) (at' : Nat) (nb : Nat) (box : Nat → Option (List (List AV))) (tok : Nat → Bool) (nt : Nat) (i : Nat) : AState :=
  ⟨tl [(12, I i), (7, .ptr (nb + 7) 0 0), (5, .ptr (nb + 5) 0 0), (1, I at'), (3, .d (strs rs)), (4, B asked)], lb nb box [(7, [c.row]), (5, [[.d (prs p)]])], tok, nt⟩
def stC5 (c : Cm) (p : List Pr) (rs : List ByteArray) (asked : Bool) (at' : Nat) (nb : Nat) (box : Nat → Option (List (List AV))) (tok : Nat → Bool) (nt : Nat) : AState :=
  ⟨tl [(7, .ptr (nb + 7) 0 0), (5, .ptr (nb + 5) 0 0), (1, I at'), (3, .d (strs rs)), (4, B asked)], lb nb box [(7, [c.row]), (5, [[.d (prs p)]])], tok, nt⟩
theorem ownE_eq (p : List Pr) (rs : List ByteArray) (asked : Bool) (at' : Nat) (c : Cm) : ownE p rs asked at' c = if okB c = false then 1
  else if c.kind = 1 then (if nameB c.name = false then 2 else if (asked && !(memS rs c.name)) = true then 4 else 0)
  else if c.kind = 10 then (if nameB c.name = false then 2 else if placeR p c.name < 0 then 4 else if (at' : Int) ≤ placeR p c.name then 12 else 0)
  else if c.kind = 6 then (if 1 ≤ c.num ∧ c.num ≤ 9 then 0 else 6) else 0 := rfl
set_option maxRecDepth 100000 in
theorem command46_c (p : List Pr) (rs : List ByteArray) (asked : Bool) (at' : Nat) (hp : p.length ≤ 200000000000000) (hr : rs.length ≤ 200000000000000) : ∀ (n : Nat) (c : Cm), c.size < n → c.Sm → ∀ (tok : Nat → Bool) (nt : Nat),
    DCall Tryz.prog 90 [prsAv p, I at', c.av, .d (strs rs), B asked] tok nt (I (cmdE p rs asked at' c)) tok nt
  | 0, c, hn, _, tok, nt => absurd hn (Nat.not_lt_zero _)
  | n + 1, c, hn, hc, tok, nt => by
    intro box nb
    have ih := fun x (hx : x ∈ c.kids) => command46_c p rs asked at' hp hr n x (by have := Cm.kid_size hx; omega) (hc.kid x hx)
    have hl := hc.len
    have hN := cmdE_eq p rs asked at' c
    have hk := kids46_c c hl
    have hnd := named46_c c.kind
    have hnm := isName01_c c.name hc.name
    have hpl := place46_c p c.name hp
    have hir := isRule46_c rs c.name hr
    have hok := okB_kids c
    have hO := ownE_eq p rs asked at' c
    have hbad : okB c = false → cmdE p rs asked at' c = 1 := fun h => by
      rw [if_pos h] at hO
      rw [hN, hO, if_pos (by decide)]
    refine sB Tryz.func90 Tryz.ntmps90 ?_
    intro hbox htok
    simp only at hbox htok
    apply AL.start
    refine sR ?_
    simp
    refine sN ?_
    refine AL.cutP (l := [_, _]) (stC5 c p rs asked at' nb box tok nt) (okB c = true) ?_ fun ok => ?_
    · by_cases g1 : c.kind < 1
      · have hf : okB c = false := by rw [hok]; simp; omega
        try (simp [g1])
        repeat (first | (refine sR ?_; simp [g1]) | (refine sC ?_; simp [g1]) | (refine sX ?_; simp only [AU, ↓reduceIte]))
        refine sT ?_
        try simp only [AU]
        refine ⟨by simp, sF hbox htok (fun _ h => h) (Nat.le_refl _) ?_⟩
        simp [packA, hbad hf]
      · by_cases g2 : 10 < c.kind
        · have hf : okB c = false := by rw [hok]; simp; omega
          try (simp [g1, g2])
          repeat (first | (refine sR ?_; simp [g1, g2]) | (refine sC ?_; simp [g1, g2]) | (refine sX ?_; simp only [AU, ↓reduceIte]))
          refine sT ?_
          try simp only [AU]
          refine ⟨by simp, sF hbox htok (fun _ h => h) (Nat.le_refl _) ?_⟩
          simp [packA, hbad hf]
        · have hin : decide (1 ≤ c.kind ∧ c.kind ≤ 10) = true := by simp; omega
          rw [hin] at hok
          try (simp [g1, g2])
          repeat (first | (refine sR ?_; simp [g1, g2]) | (refine sC ?_; simp [g1, g2]) | (refine sX ?_; simp only [AU, ↓reduceIte]))
          refine Stop.of_d (hk _ _) ?_
          simp
          cases kz : kidsZ c
          · rw [kz] at hok
            have hf : okB c = false := by rw [hok]; simp
            try (simp)
            repeat (first | (refine sR ?_; simp) | (refine sC ?_; simp) | (refine sX ?_; simp only [AU, ↓reduceIte]))
            refine sT ?_
            try simp only [AU]
            refine ⟨by simp, sF hbox htok (fun _ h => h) (Nat.le_refl _) ?_⟩
            simp [packA, hbad hf]
          · rw [kz] at hok
            try (simp)
            repeat (first | (refine sR ?_; simp) | (refine sC ?_; simp) | (refine sX ?_; simp only [AU, ↓reduceIte]))
            refine Stop.of_d (hnd _ _) ?_
            simp
            by_cases hs : c.name = ⟨#[]⟩
            · have hs' := name_nil.2 hs
              have hs2 : c.name.toList.isEmpty = true := by simp [hs']
              by_cases k1 : c.kind = 1
              · by_cases hn : c.num = 0
                · try (simp [k1, hs', hs2, hn])
                  repeat (first | (refine sR ?_; simp [k1, hs', hs2, hn]) | (refine sC ?_; simp [k1, hs', hs2, hn]) | (refine sX ?_; simp only [AU, ↓reduceIte]))
                  refine sE ?_
                  exact ⟨by rw [hok]; simp [hs, hn], Weaks.mk (Nat.le_refl _) rfl (by simp [stC5, ToL, lk]) (by simp [stC5, BoxL, lk])⟩
                · have bn : (c.num != 0) = true := by simp [hn]
                  have hf : okB c = false := by rw [hok]; simp [hs, hn, k1]
                  try (simp [k1, hs', hs2, bn])
                  repeat (first | (refine sR ?_; simp [k1, hs', hs2, bn]) | (refine sC ?_; simp [k1, hs', hs2, bn]) | (refine sX ?_; simp only [AU, ↓reduceIte]))
                  refine sT ?_
                  try simp only [AU]
                  refine ⟨by simp, sF hbox htok (fun _ h => h) (Nat.le_refl _) ?_⟩
                  simp [packA, hbad hf]
              · by_cases k10 : c.kind = 10
                · by_cases hn : c.num = 0
                  · try (simp [k10, hs', hs2, hn])
                    repeat (first | (refine sR ?_; simp [k10, hs', hs2, hn]) | (refine sC ?_; simp [k10, hs', hs2, hn]) | (refine sX ?_; simp only [AU, ↓reduceIte]))
                    refine sE ?_
                    exact ⟨by rw [hok]; simp [hs, hn], Weaks.mk (Nat.le_refl _) rfl (by simp [stC5, ToL, lk]) (by simp [stC5, BoxL, lk])⟩
                  · have bn : (c.num != 0) = true := by simp [hn]
                    have hf : okB c = false := by rw [hok]; simp [hs, hn, k10]
                    try (simp [k10, hs', hs2, bn])
                    repeat (first | (refine sR ?_; simp [k10, hs', hs2, bn]) | (refine sC ?_; simp [k10, hs', hs2, bn]) | (refine sX ?_; simp only [AU, ↓reduceIte]))
                    refine sT ?_
                    try simp only [AU]
                    refine ⟨by simp, sF hbox htok (fun _ h => h) (Nat.le_refl _) ?_⟩
                    simp [packA, hbad hf]
                · by_cases k6 : c.kind = 6
                  · try (simp [k1, k10, k6, hs', hs2])
                    repeat (first | (refine sR ?_; simp [k1, k10, k6, hs', hs2]) | (refine sC ?_; simp [k1, k10, k6, hs', hs2]) | (refine sX ?_; simp only [AU, ↓reduceIte]))
                    refine sE ?_
                    exact ⟨by rw [hok]; simp [hs, k6], Weaks.mk (Nat.le_refl _) rfl (by simp [stC5, ToL, lk]) (by simp [stC5, BoxL, lk])⟩
                  · have b6 : (c.kind != 6) = true := by simp [k6]
                    by_cases hn : c.num = 0
                    · try (simp [k1, k10, b6, hs', hs2, hn])
                      repeat (first | (refine sR ?_; simp [k1, k10, b6, hs', hs2, hn]) | (refine sC ?_; simp [k1, k10, b6, hs', hs2, hn]) | (refine sX ?_; simp only [AU, ↓reduceIte]))
                      refine sE ?_
                      exact ⟨by rw [hok]; simp [hs, hn], Weaks.mk (Nat.le_refl _) rfl (by simp [stC5, ToL, lk]) (by simp [stC5, BoxL, lk])⟩
                    · have bn : (c.num != 0) = true := by simp [hn]
                      have hf : okB c = false := by rw [hok]; simp [hs, hn, k6]
                      try (simp [k1, k10, b6, hs', hs2, bn])
                      repeat (first | (refine sR ?_; simp [k1, k10, b6, hs', hs2, bn]) | (refine sC ?_; simp [k1, k10, b6, hs', hs2, bn]) | (refine sX ?_; simp only [AU, ↓reduceIte]))
                      refine sT ?_
                      try simp only [AU]
                      refine ⟨by simp, sF hbox htok (fun _ h => h) (Nat.le_refl _) ?_⟩
                      simp [packA, hbad hf]
            · have hs' : ¬ c.name.toList = [] := fun h => hs (name_nil.1 h)
              have hs2 : c.name.toList.isEmpty = false := by simpa using hs'
              by_cases k1 : c.kind = 1
              · by_cases hn : c.num = 0
                · try (simp [k1, hs', hs2, hn])
                  repeat (first | (refine sR ?_; simp [k1, hs', hs2, hn]) | (refine sC ?_; simp [k1, hs', hs2, hn]) | (refine sX ?_; simp only [AU, ↓reduceIte]))
                  refine sE ?_
                  exact ⟨by rw [hok]; simp [k1, hn], Weaks.mk (Nat.le_refl _) rfl (by simp [stC5, ToL, lk]) (by simp [stC5, BoxL, lk])⟩
                · have bn : (c.num != 0) = true := by simp [hn]
                  have hf : okB c = false := by rw [hok]; simp [hn, k1]
                  try (simp [k1, hs', hs2, bn])
                  repeat (first | (refine sR ?_; simp [k1, hs', hs2, bn]) | (refine sC ?_; simp [k1, hs', hs2, bn]) | (refine sX ?_; simp only [AU, ↓reduceIte]))
                  refine sT ?_
                  try simp only [AU]
                  refine ⟨by simp, sF hbox htok (fun _ h => h) (Nat.le_refl _) ?_⟩
                  simp [packA, hbad hf]
              · by_cases k10 : c.kind = 10
                · by_cases hn : c.num = 0
                  · try (simp [k10, hs', hs2, hn])
                    repeat (first | (refine sR ?_; simp [k10, hs', hs2, hn]) | (refine sC ?_; simp [k10, hs', hs2, hn]) | (refine sX ?_; simp only [AU, ↓reduceIte]))
                    refine sE ?_
                    exact ⟨by rw [hok]; simp [k10, hn], Weaks.mk (Nat.le_refl _) rfl (by simp [stC5, ToL, lk]) (by simp [stC5, BoxL, lk])⟩
                  · have bn : (c.num != 0) = true := by simp [hn]
                    have hf : okB c = false := by rw [hok]; simp [hn, k10]
                    try (simp [k10, hs', hs2, bn])
                    repeat (first | (refine sR ?_; simp [k10, hs', hs2, bn]) | (refine sC ?_; simp [k10, hs', hs2, bn]) | (refine sX ?_; simp only [AU, ↓reduceIte]))
                    refine sT ?_
                    try simp only [AU]
                    refine ⟨by simp, sF hbox htok (fun _ h => h) (Nat.le_refl _) ?_⟩
                    simp [packA, hbad hf]
                · have hf : okB c = false := by rw [hok]; simp [k1, k10, hs]
                  try (simp [k1, k10, hs', hs2])
                  repeat (first | (refine sR ?_; simp [k1, k10, hs', hs2]) | (refine sC ?_; simp [k1, k10, hs', hs2]) | (refine sX ?_; simp only [AU, ↓reduceIte]))
                  refine sT ?_
                  try simp only [AU]
                  refine ⟨by simp, sF hbox htok (fun _ h => h) (Nat.le_refl _) ?_⟩
                  simp [packA, hbad hf]
    · rw [if_neg (by simp [ok])] at hO
      refine sN ?_
      refine AL.cutP (l := [_, _]) (stC5 c p rs asked at' nb box tok nt) (c.kind = 1 ∨ c.kind = 10 → nameB c.name = true) ?_ fun ok2 => ?_
      · simp only [stC5]
        try (simp)
        repeat (refine sR ?_; simp)
        refine Stop.of_d (hnd _ _) ?_
        simp
        by_cases k1 : c.kind = 1 ∨ c.kind = 10
        · have kd : (decide (c.kind = 1) || decide (c.kind = 10)) = true := by simpa using k1
          cases e2 : nameB c.name
          · have hE : ownE p rs asked at' c = 2 := by
              rw [hO]
              by_cases k : c.kind = 1
              · rw [if_pos k, if_pos e2]
              · rw [if_neg k, if_pos (by omega), if_pos e2]
            rw [hE, if_pos (by decide)] at hN
            simp only [kd]
            try (simp)
            repeat (first | (refine sR ?_; simp) | (refine sC ?_; simp) | (refine sX ?_; simp only [AU, ↓reduceIte]))
            refine Stop.of_d (hnm _ _) ?_
            simp
            try (simp [e2])
            repeat (first | (refine sR ?_; simp [e2]) | (refine sC ?_; simp [e2]) | (refine sX ?_; simp only [AU, ↓reduceIte]))
            refine sT ?_
            try simp only [AU]
            refine ⟨by simp, sF hbox htok (fun _ h => h) (Nat.le_refl _) ?_⟩
            simp [packA, hN]
          · simp only [kd]
            try (simp)
            repeat (first | (refine sR ?_; simp) | (refine sC ?_; simp) | (refine sX ?_; simp only [AU, ↓reduceIte]))
            refine Stop.of_d (hnm _ _) ?_
            simp
            try (simp [e2])
            repeat (first | (refine sR ?_; simp [e2]) | (refine sC ?_; simp [e2]) | (refine sX ?_; simp only [AU, ↓reduceIte]))
            refine sE ?_
            first | exact ⟨by simp, Weaks.mk (Nat.le_refl _) rfl (by simp [stC5, ToL, lk]) (by simp [stC5, BoxL, lk])⟩ | exact Weaks.mk (Nat.le_refl _) rfl (by simp [stC5, ToL, lk]) (by simp [stC5, BoxL, lk])
        · have kd : (decide (c.kind = 1) || decide (c.kind = 10)) = false := by simpa using k1
          simp only [kd]
          try (simp)
          repeat (first | (refine sR ?_; simp) | (refine sC ?_; simp) | (refine sX ?_; simp only [AU, ↓reduceIte]))
          refine sE ?_
          first | exact ⟨by omega, Weaks.mk (Nat.le_refl _) rfl (by simp [stC5, ToL, lk]) (by simp [stC5, BoxL, lk])⟩ | exact Weaks.mk (Nat.le_refl _) rfl (by simp [stC5, ToL, lk]) (by simp [stC5, BoxL, lk])
      · simp only [stC5]
        refine sN ?_
        refine AL.cutP (l := [_, _]) (stC5 c p rs asked at' nb box tok nt) (c.kind = 6 → 1 ≤ c.num ∧ c.num ≤ 9) ?_ fun ok6 => ?_
        · by_cases k6 : c.kind = 6
          · have hO6 := hO
            rw [if_neg (by omega), if_neg (by omega), if_pos k6] at hO6
            by_cases e3 : c.num < 1
            · rw [if_neg (by omega)] at hO6
              rw [hO6, if_pos (by decide)] at hN
              try (simp [k6, e3])
              repeat (first | (refine sR ?_; simp [k6, e3]) | (refine sC ?_; simp [k6, e3]) | (refine sX ?_; simp only [AU, ↓reduceIte]))
              refine sT ?_
              try simp only [AU]
              refine ⟨by simp, sF hbox htok (fun _ h => h) (Nat.le_refl _) ?_⟩
              simp [packA, hN]
            · by_cases e4 : 9 < c.num
              · rw [if_neg (by omega)] at hO6
                rw [hO6, if_pos (by decide)] at hN
                try (simp [k6, e3, e4])
                repeat (first | (refine sR ?_; simp [k6, e3, e4]) | (refine sC ?_; simp [k6, e3, e4]) | (refine sX ?_; simp only [AU, ↓reduceIte]))
                refine sT ?_
                try simp only [AU]
                refine ⟨by simp, sF hbox htok (fun _ h => h) (Nat.le_refl _) ?_⟩
                simp [packA, hN]
              · try (simp [k6, e3, e4])
                repeat (first | (refine sR ?_; simp [k6, e3, e4]) | (refine sC ?_; simp [k6, e3, e4]) | (refine sX ?_; simp only [AU, ↓reduceIte]))
                refine sE ?_
                first | exact ⟨by omega, Weaks.mk (Nat.le_refl _) rfl (by simp [stC5, ToL, lk]) (by simp [stC5, BoxL, lk])⟩ | exact Weaks.mk (Nat.le_refl _) rfl (by simp [stC5, ToL, lk]) (by simp [stC5, BoxL, lk])
          · have b6 : (c.kind == 6) = false := by simp [k6]
            try (simp [b6])
            repeat (first | (refine sR ?_; simp [b6]) | (refine sC ?_; simp [b6]) | (refine sX ?_; simp only [AU, ↓reduceIte]))
            refine sE ?_
            first | exact ⟨by omega, Weaks.mk (Nat.le_refl _) rfl (by simp [stC5, ToL, lk]) (by simp [stC5, BoxL, lk])⟩ | exact Weaks.mk (Nat.le_refl _) rfl (by simp [stC5, ToL, lk]) (by simp [stC5, BoxL, lk])
        · simp only [stC5]
          refine sN ?_
          refine AL.cutP (l := [_, _]) (stC5 c p rs asked at' nb box tok nt) (c.kind = 1 → (asked && !(memS rs c.name)) = false) ?_ fun ok1 => ?_
          · by_cases k1 : c.kind = 1
            · cases asked
              · try (simp [k1])
                repeat (first | (refine sR ?_; simp [k1]) | (refine sC ?_; simp [k1]) | (refine sX ?_; simp only [AU, ↓reduceIte]))
                refine sE ?_
                first | exact ⟨by simp, Weaks.mk (Nat.le_refl _) rfl (by simp [stC5, ToL, lk]) (by simp [stC5, BoxL, lk])⟩ | exact Weaks.mk (Nat.le_refl _) rfl (by simp [stC5, ToL, lk]) (by simp [stC5, BoxL, lk])
              · try (simp [k1])
                repeat (first | (refine sR ?_; simp [k1]) | (refine sC ?_; simp [k1]) | (refine sX ?_; simp only [AU, ↓reduceIte]))
                refine Stop.of_d (hir _ _) ?_
                simp
                cases e3 : memS rs c.name
                · rw [if_pos k1, if_neg (by simp [ok2 (.inl k1)]), e3, if_pos (by simp)] at hO
                  rw [hO, if_pos (by decide)] at hN
                  try (simp)
                  repeat (first | (refine sR ?_; simp) | (refine sC ?_; simp) | (refine sX ?_; simp only [AU, ↓reduceIte]))
                  refine sT ?_
                  try simp only [AU]
                  refine ⟨by simp, sF hbox htok (fun _ h => h) (Nat.le_refl _) ?_⟩
                  simp [packA, hN]
                · try (simp)
                  repeat (first | (refine sR ?_; simp) | (refine sC ?_; simp) | (refine sX ?_; simp only [AU, ↓reduceIte]))
                  refine sE ?_
                  first | exact ⟨by simp, Weaks.mk (Nat.le_refl _) rfl (by simp [stC5, ToL, lk]) (by simp [stC5, BoxL, lk])⟩ | exact Weaks.mk (Nat.le_refl _) rfl (by simp [stC5, ToL, lk]) (by simp [stC5, BoxL, lk])
            · have b1 : (c.kind == 1) = false := by simp [k1]
              try (simp [b1])
              repeat (first | (refine sR ?_; simp [b1]) | (refine sC ?_; simp [b1]) | (refine sX ?_; simp only [AU, ↓reduceIte]))
              refine sE ?_
              first | exact ⟨by omega, Weaks.mk (Nat.le_refl _) rfl (by simp [stC5, ToL, lk]) (by simp [stC5, BoxL, lk])⟩ | exact Weaks.mk (Nat.le_refl _) rfl (by simp [stC5, ToL, lk]) (by simp [stC5, BoxL, lk])
          · simp only [stC5]
            refine sN ?_
            refine AL.cutP (l := [_, _]) (stC5 c p rs asked at' nb box tok nt) (c.kind = 10 → 0 ≤ placeR p c.name ∧ placeR p c.name < at') ?_ fun ok10 => ?_
            · by_cases k10 : c.kind = 10
              · rw [if_neg (by omega), if_pos k10, if_neg (by simp [ok2 (.inr k10)])] at hO
                try (simp [k10])
                repeat (first | (refine sR ?_; simp [k10]) | (refine sC ?_; simp [k10]) | (refine sX ?_; simp only [AU, ↓reduceIte]))
                refine Stop.of_d (hpl _ _) ?_
                simp
                by_cases e3 : placeR p c.name < 0
                · rw [if_pos e3] at hO
                  rw [hO, if_pos (by decide)] at hN
                  try (simp [e3])
                  repeat (first | (refine sR ?_; simp [e3]) | (refine sC ?_; simp [e3]) | (refine sX ?_; simp only [AU, ↓reduceIte]))
                  refine sT ?_
                  try simp only [AU]
                  refine ⟨by simp, sF hbox htok (fun _ h => h) (Nat.le_refl _) ?_⟩
                  simp [packA, hN]
                · rw [if_neg e3] at hO
                  by_cases e4 : (at' : Int) ≤ placeR p c.name
                  · rw [if_pos e4] at hO
                    rw [hO, if_pos (by decide)] at hN
                    try (simp [e3, e4])
                    repeat (first | (refine sR ?_; simp [e3, e4]) | (refine sC ?_; simp [e3, e4]) | (refine sX ?_; simp only [AU, ↓reduceIte]))
                    refine sT ?_
                    try simp only [AU]
                    refine ⟨by simp, sF hbox htok (fun _ h => h) (Nat.le_refl _) ?_⟩
                    simp [packA, hN]
                  · try (simp [e3, e4])
                    repeat (first | (refine sR ?_; simp [e3, e4]) | (refine sC ?_; simp [e3, e4]) | (refine sX ?_; simp only [AU, ↓reduceIte]))
                    refine sE ?_
                    first | exact ⟨by omega, Weaks.mk (Nat.le_refl _) rfl (by simp [stC5, ToL, lk]) (by simp [stC5, BoxL, lk])⟩ | exact Weaks.mk (Nat.le_refl _) rfl (by simp [stC5, ToL, lk]) (by simp [stC5, BoxL, lk])
              · have b10 : (c.kind == 10) = false := by simp [k10]
                try (simp [b10])
                repeat (first | (refine sR ?_; simp [b10]) | (refine sC ?_; simp [b10]) | (refine sX ?_; simp only [AU, ↓reduceIte]))
                refine sE ?_
                first | exact ⟨by omega, Weaks.mk (Nat.le_refl _) rfl (by simp [stC5, ToL, lk]) (by simp [stC5, BoxL, lk])⟩ | exact Weaks.mk (Nat.le_refl _) rfl (by simp [stC5, ToL, lk]) (by simp [stC5, BoxL, lk])
            · have hE : ownE p rs asked at' c = 0 := by
                rw [hO]
                by_cases k1 : c.kind = 1
                · rw [if_pos k1, if_neg (by simp [ok2 (.inl k1)]), if_neg (by simp [ok1 k1])]
                · rw [if_neg k1]
                  by_cases k10 : c.kind = 10
                  · have := ok10 k10
                    rw [if_pos k10, if_neg (by simp [ok2 (.inr k10)]), if_neg (by omega), if_neg (by omega)]
                  · rw [if_neg k10]
                    by_cases k6 : c.kind = 6
                    · rw [if_pos k6, if_pos (ok6 k6)]
                    · rw [if_neg k6]
              rw [if_neg (by simp [hE])] at hN
              simp only [stC5]
              try (simp)
              repeat (refine sR ?_; simp)
              refine sN ?_
              refine AL.loopT (stC6 c p rs asked at' nb box tok nt) (fun i => i ≤ c.kids.length ∧ ∀ x ∈ c.kids.take i, cmdE p rs asked at' x = 0) (fun i => c.kids.length - i) 0 ⟨Nat.zero_le _, by simp⟩ (Weaks.mk (Nat.le_refl _) rfl (by simp [ToL, lk]) (by simp [BoxL, lk])) ?_
              rintro i S ⟨hi, htk⟩ hS
              simp only [stC6] at hS
              subst hS
              have hw := sW (i := i) (by omega)
              by_cases hlt : i < c.kids.length
              · have ihx := ih _ (List.getElem_mem hlt)
                have hst := cmdEL_take (p := p) (rs := rs) (asked := asked) (at' := at') hlt htk
                have hmore : cmdE p rs asked at' c.kids[i] = 0 → ∀ x ∈ c.kids.take (i + 1), cmdE p rs asked at' x = 0 := fun he x hx => by
                  rw [List.take_succ_eq_append_getElem hlt] at hx
                  rcases List.mem_append.1 hx with hx | hx
                  · exact htk x hx
                  · simp at hx; rw [hx]; exact he
                try (simp [hlt])
                repeat (refine sR ?_; simp [hlt])
                refine sC ?_
                simp
                try (simp [hlt, Cm.cells_eq])
                repeat (refine sR ?_; simp [hlt, Cm.cells_eq])
                generalize c.kids[i] = x at *
                refine Stop.of_d (ihx _ _) ?_
                simp
                by_cases e2 : cmdE p rs asked at' x = 0
                · have b2 : (cmdE p rs asked at' x != 0) = false := by simp [e2]
                  try (simp [b2, hw])
                  repeat (first | (refine sR ?_; simp [b2, hw]) | (refine sC ?_; simp [b2, hw]) | (refine sX ?_; simp only [AU, ↓reduceIte]))
                  refine sE ?_
                  exact ⟨i + 1, ⟨hlt, hmore e2⟩, by omega, Weaks.mk (Nat.le_refl _) rfl (by simp [ToL, lk]) (by simp [BoxL, lk])⟩
                · have b2 : (cmdE p rs asked at' x != 0) = true := by simp [e2]
                  try (simp [b2])
                  repeat (first | (refine sR ?_; simp [b2]) | (refine sC ?_; simp [b2]) | (refine sX ?_; simp only [AU, ↓reduceIte]))
                  refine sT ?_
                  try simp only [AU]
                  refine ⟨by simp, sF hbox htok (fun _ h => h) (Nat.le_refl _) ?_⟩
                  simp [packA, hN, hst e2]
              · have : i = c.kids.length := by omega
                subst this
                rw [List.take_length] at htk
                have h0 := cmdEL_none htk
                try (simp [hlt])
                repeat (refine sR ?_; simp [hlt])
                refine sC ?_
                simp
                refine sX ?_
                simp only [AU, ↓reduceIte]
                try (simp)
                repeat (refine sR ?_; simp)
                refine sT ?_
                try simp only [AU]
                refine ⟨by simp, sF hbox htok (fun _ h => h) (Nat.le_refl _) ?_⟩
                simp [packA, hN, h0]
end Go.AM
namespace Go.AM
open Go Go.Proofs
def stF6 (p : List Pr) (rs : List ByteArray) (asked : Bool) (nb : Nat) (box : Nat → Option (List (List AV))) (tok : Nat → Bool) (nt : Nat) (i : Nat) : AState :=
  ⟨tl [(8, I i), (3, .ptr (nb + 3) 0 0), (1, .d (strs rs)), (2, B asked)], lb nb box [(3, [[.d (prs p)]])], tok, nt⟩
set_option maxRecDepth 100000 in
theorem fault46_c (p : List Pr) (rs : List ByteArray) (asked : Bool) (hp : PrsOk p) (hr : rs.length ≤ 200000000000000) (tok : Nat → Bool) (nt : Nat) :
    DCall Tryz.prog 53 [prsAv p, .d (strs rs), B asked] tok nt (.tup [I (faultR p rs asked).1, I (faultR p rs asked).2]) tok nt := by
  intro box nb
  have hpl := hp.len
  obtain ⟨N, hN⟩ : ∃ N, faultR p rs asked = N := ⟨_, rfl⟩
  rw [hN]
  unfold faultR at hN
  refine sB Tryz.func53 Tryz.ntmps53 ?_
  intro hbox htok
  simp only at hbox htok
  apply AL.start
  try (simp)
  repeat (refine sR ?_; simp)
  by_cases e1 : p.length = 0
  · rw [if_pos e1] at hN
    try (simp [e1])
    repeat (first | (refine sR ?_; simp [e1]) | (refine sC ?_; simp [e1]) | (refine sX ?_; simp only [AU, ↓reduceIte]))
    refine sT ?_
    try simp only [AU]
    refine ⟨by simp, sF hbox htok (fun _ h => h) (Nat.le_refl _) ?_⟩
    simp [packA, ← hN]
  · rw [if_neg e1] at hN
    have b1 : ((p.length : Int) == 0) = false := by rw [beq_eq_false_iff_ne]; omega
    by_cases e2 : 20 < p.length
    · rw [if_pos e2] at hN
      have e2' : (20 : Int) < p.length := by omega
      try (simp [b1, e2'])
      repeat (first | (refine sR ?_; simp [b1, e2']) | (refine sC ?_; simp [b1, e2']) | (refine sX ?_; simp only [AU, ↓reduceIte]))
      refine sT ?_
      try simp only [AU]
      refine ⟨by simp, sF hbox htok (fun _ h => h) (Nat.le_refl _) ?_⟩
      simp [packA, ← hN]
    · rw [if_neg e2] at hN
      have e2' : ¬ (20 : Int) < p.length := by omega
      simp only [b1]
      try (simp [e2'])
      repeat (first | (refine sR ?_; simp [e2']) | (refine sC ?_; simp [e2']) | (refine sX ?_; simp only [AU, ↓reduceIte]))
      refine sN ?_
      refine AL.loopT (stF6 p rs asked nb box tok nt) (fun i => i ≤ p.length ∧ faultL p rs asked (p.drop i) i = N) (fun i => p.length - i) 0 ⟨Nat.zero_le _, by rw [List.drop_zero]; exact hN⟩ (Weaks.mk (Nat.le_refl _) rfl (by simp [ToL, lk]) (by simp [BoxL, lk])) ?_
      rintro i S ⟨hi, hf⟩ hS
      simp only [stF6] at hS
      subst hS
      have hw := sW (i := i) (by omega)
      by_cases hlt : i < p.length
      · have hm := List.getElem_mem hlt
        have h1 := isName01_c p[i].name (hp.nm _ hm)
        have h2 := place46_c p p[i].name hpl
        have h3 := measure46_c _ p[i].body (Nat.lt_succ_self _) (hp.sz _ hm) 1 (by omega)
        have h4 := command46_c p rs asked i hpl hr _ p[i].body (Nat.lt_succ_self _) (hp.bd _ hm)
        rw [faultL_drop p rs asked hlt] at hf
        obtain ⟨pe, hpe⟩ : ∃ pe, prE p rs asked i p[i] = pe := ⟨_, rfl⟩
        rw [hpe] at hf
        have hE := hpe
        unfold prE at hE
        have hm46 := p[i].body.rm_iff
        try (simp [hlt])
        repeat (refine sR ?_; simp [hlt])
        refine sC ?_
        simp
        try (simp [hlt])
        repeat (refine sR ?_; simp [hlt])
        generalize p[i] = q at *
        try (simp)
        repeat (refine sR ?_; simp)
        refine Stop.of_d (h1 _ _) ?_
        simp
        cases e3 : nameB q.name
        · rw [if_pos e3] at hE
          rw [← hE, if_pos (by decide)] at hf
          try (simp)
          repeat (first | (refine sR ?_; simp) | (refine sC ?_; simp) | (refine sX ?_; simp only [AU, ↓reduceIte]))
          refine sT ?_
          try simp only [AU]
          refine ⟨by simp, sF hbox htok (fun _ h => h) (Nat.le_refl _) ?_⟩
          simp [packA, ← hf]
        · rw [if_neg (by simp [e3])] at hE
          try (simp)
          repeat (first | (refine sR ?_; simp) | (refine sC ?_; simp) | (refine sX ?_; simp only [AU, ↓reduceIte]))
          refine Stop.of_d (h2 _ _) ?_
          simp
          by_cases e4 : placeR p q.name < i
          · rw [if_pos e4] at hE
            rw [← hE, if_pos (by decide)] at hf
            try (simp [e4])
            repeat (first | (refine sR ?_; simp [e4]) | (refine sC ?_; simp [e4]) | (refine sX ?_; simp only [AU, ↓reduceIte]))
            refine sT ?_
            try simp only [AU]
            refine ⟨by simp, sF hbox htok (fun _ h => h) (Nat.le_refl _) ?_⟩
            simp [packA, ← hf]
          · rw [if_neg e4] at hE
            try (simp [e4])
            repeat (first | (refine sR ?_; simp [e4]) | (refine sC ?_; simp [e4]) | (refine sX ?_; simp only [AU, ↓reduceIte]))
            refine Stop.of_d (h3 _ _) ?_
            simp
            generalize q.body.rm 1 = m at *
            by_cases e5 : 60 < m.1
            · rw [if_pos (hm46.1 (.inl e5))] at hE
              rw [← hE, if_pos (by decide)] at hf
              have e5' : (60 : Int) < m.1 := by omega
              try (simp [e5'])
              repeat (first | (refine sR ?_; simp [e5']) | (refine sC ?_; simp [e5']) | (refine sX ?_; simp only [AU, ↓reduceIte]))
              refine sT ?_
              try simp only [AU]
              refine ⟨by simp, sF hbox htok (fun _ h => h) (Nat.le_refl _) ?_⟩
              simp [packA, ← hf]
            · have e5' : ¬ (60 : Int) < m.1 := by omega
              by_cases e6 : 6 < m.2
              · rw [if_pos (hm46.1 (.inr e6))] at hE
                rw [← hE, if_pos (by decide)] at hf
                have e6' : (6 : Int) < m.2 := by omega
                try (simp [e5', e6'])
                repeat (first | (refine sR ?_; simp [e5', e6']) | (refine sC ?_; simp [e5', e6']) | (refine sX ?_; simp only [AU, ↓reduceIte]))
                refine sT ?_
                try simp only [AU]
                refine ⟨by simp, sF hbox htok (fun _ h => h) (Nat.le_refl _) ?_⟩
                simp [packA, ← hf]
              · rw [if_neg (fun h => by have := hm46.2 h; omega)] at hE
                rw [← hE] at hf
                have e6' : ¬ (6 : Int) < m.2 := by omega
                try (simp [e5', e6'])
                repeat (first | (refine sR ?_; simp [e5', e6']) | (refine sC ?_; simp [e5', e6']) | (refine sX ?_; simp only [AU, ↓reduceIte]))
                refine Stop.of_d (h4 _ _) ?_
                simp
                by_cases e7 : cmdE p rs asked i q.body = 0
                · have b7 : (cmdE p rs asked i q.body != 0) = false := by simp [e7]
                  rw [if_neg (by simp [e7])] at hf
                  try (simp [b7, hw])
                  repeat (first | (refine sR ?_; simp [b7, hw]) | (refine sC ?_; simp [b7, hw]) | (refine sX ?_; simp only [AU, ↓reduceIte]))
                  refine sE ?_
                  exact ⟨i + 1, ⟨hlt, hf⟩, by omega, Weaks.mk (Nat.le_refl _) rfl (by simp [ToL, lk]) (by simp [BoxL, lk])⟩
                · have b7 : (cmdE p rs asked i q.body != 0) = true := by simp [e7]
                  rw [if_pos e7] at hf
                  try (simp [b7])
                  repeat (first | (refine sR ?_; simp [b7]) | (refine sC ?_; simp [b7]) | (refine sX ?_; simp only [AU, ↓reduceIte]))
                  refine sT ?_
                  try simp only [AU]
                  refine ⟨by simp, sF hbox htok (fun _ h => h) (Nat.le_refl _) ?_⟩
                  simp [packA, ← hf]
      · have : i = p.length := by omega
        subst this
        rw [List.drop_length, faultL] at hf
        try (simp [hlt])
        repeat (refine sR ?_; simp [hlt])
        refine sC ?_
        simp
        refine sX ?_
        simp only [AU, ↓reduceIte]
        try (simp)
        repeat (refine sR ?_; simp)
        refine sT ?_
        try simp only [AU]
        refine ⟨by simp, sF hbox htok (fun _ h => h) (Nat.le_refl _) ?_⟩
        simp [packA, ← hf]
theorem shape46_c (p : List Pr) (hp : PrsOk p) (tok : Nat → Bool) (nt : Nat) : DCall Tryz.prog 42 [prsAv p] tok nt (I (faultR p [] false).2) tok nt := by
  intro box nb
  have h := fault46_c p [] false hp (by simp)
  refine sB Tryz.func42 Tryz.ntmps42 ?_
  intro hbox htok
  simp only at hbox htok
  apply AL.start
  try (simp)
  repeat (refine sR ?_; simp)
  refine Stop.sub (args' := [prsAv p, .d (strs []), B false]) ⟨Sub.refl _, Sub.nil _ _ _, Sub.refl _, trivial⟩ ?_
  refine Stop.of_d (h _ _) ?_
  simp
  try (simp)
  repeat (refine sR ?_; simp)
  refine sT ?_
  try simp only [AU]
  refine ⟨by simp, sF hbox htok (fun _ h => h) (Nat.le_refl _) ?_⟩
  simp [packA]
end Go.AM
namespace Go.AM
open Go Go.Proofs
def dStep (sq : Bool) (a : List Cm) (y : Cm) : List Cm := if (sq && y.kind == 2) = true then a ++ y.kids else a ++ [y]
mutual
def expD (p : List Pr) (kn : List Cm) (sm : List Bool) : Cm → Cm × Bool
  | .mk k s n c => if k = 10 then (kn.getD (placeR p s).toNat zC, sm.getD (placeR p s).toNat false) else (.mk k s n (expDL p kn sm (k == 2) c []).1, (expDL p kn sm (k == 2) c []).2)
def expDL (p : List Pr) (kn : List Cm) (sm : List Bool) (sq : Bool) : List Cm → List Cm → List Cm × Bool
  | [], a => (a, true)
  | x :: r, a => if (expD p kn sm x).2 = true ∧ 1 + Cm.sizeL (dStep sq a (expD p kn sm x).1) ≤ 200 then expDL p kn sm sq r (dStep sq a (expD p kn sm x).1) else (dStep sq a (expD p kn sm x).1, false)
end
end Go.AM
namespace Go.AM
open Go Go.Proofs
theorem Cm.kid_depth {c x : Cm} (h : x ∈ c.kids) : x.depth < c.depth := by
  rw [c.depth_eq]
  generalize c.kids = l at h
  induction l with
  | nil => simp at h
  | cons y r ih =>
    simp only [Cm.depthL]
    rcases List.mem_cons.1 h with rfl | h
    · omega
    · have := ih h; omega
structure AccD where
  i : Nat
  a : List Cm
  ok : Bool
  own : Own
  tok : Nat → Bool
  nt : Nat
structure DInv (p : List Pr) (kn : List Cm) (sm : List Bool) (c : Cm) (mtok : Nat → Bool) (nt0 : Nat) (x : AccD) : Prop where
  i : x.i ≤ c.kids.length
  e : x.ok = true → expDL p kn sm (c.kind == 2) (c.kids.take x.i) [] = (x.a, true)
  f : x.ok = false → expDL p kn sm (c.kind == 2) c.kids [] = (x.a, false)
  k : TK mtok nt0 x.tok x.nt [x.own]
theorem DInv.of {p : List Pr} {kn : List Cm} {sm : List Bool} {c : Cm} {mtok : Nat → Bool} {nt0 : Nat} {i : Nat} {a : List Cm} {ok : Bool} {own : Own} {tok : Nat → Bool} {nt : Nat} (h1 : i ≤ c.kids.length) (h2 : ok = true → expDL p kn sm (c.kind == 2) (c.kids.take i) [] = (a, true))
    (h3 : ok = false → expDL p kn sm (c.kind == 2) c.kids [] = (a, false)) (h4 : TK mtok nt0 tok nt [own]) : DInv p kn sm c mtok nt0 ⟨i, a, ok, own, tok, nt⟩ := ⟨h1, h2, h3, h4⟩
theorem fault_depth {p : List Pr} {rs : List ByteArray} {asked : Bool} (h : ∀ i (hi : i < p.length), prE p rs asked i p[i] = 0) : ∀ q ∈ p, q.body.depth ≤ 6 ∧ q.body.size ≤ 60 ∧ nameB q.name = true := by
  intro q hq
  obtain ⟨i, hi, rfl⟩ := List.getElem_of_mem hq
  have h4 := h i hi
  unfold prE at h4
  by_cases e1 : nameB p[i].name = false
  · rw [if_pos e1] at h4; cases h4
  · rw [if_neg e1] at h4
    by_cases e2 : placeR p p[i].name < i
    · rw [if_pos e2] at h4; cases h4
    · rw [if_neg e2] at h4
      by_cases e3 : 60 < p[i].body.size ∨ 6 < p[i].body.depth
      · rw [if_pos e3] at h4; cases h4
      · exact ⟨by omega, by omega, by simpa using e1⟩
end Go.AM
namespace Go.AM
open Go Go.Proofs
def padR : Nat → ByteArray
  | 0 => ⟨#[]⟩
  | n + 1 => padR n ++ ⟨#[32, 32]⟩
def lineR (ind : Nat) (s : ByteArray) : ByteArray := padR ind ++ (s ++ ⟨#[10]⟩)
def digsB : ByteArray := ⟨#[48, 49, 50, 51, 52, 53, 54, 55, 56, 57]⟩
def digR (n : Int) : ByteArray := digsB.extract n.toNat (n.toNat + 1)
def fApply : ByteArray := ⟨#[97, 112, 112, 108, 121, 32]⟩
def fCall : ByteArray := ⟨#[99, 97, 108, 108, 32]⟩
def fSemi : ByteArray := ⟨#[32, 59]⟩
def fSkip : ByteArray := ⟨#[115, 107, 105, 112, 32, 59]⟩
def fFail : ByteArray := ⟨#[102, 97, 105, 108, 32, 59]⟩
def fOpen : ByteArray := ⟨#[32, 123]⟩
def fRep : ByteArray := ⟨#[114, 101, 112, 101, 97, 116, 32]⟩
def kwCho : List ByteArray := [⟨#[99, 104, 111, 111, 115, 101]⟩, ⟨#[125, 32, 111, 114]⟩]
def kwIf : List ByteArray := [⟨#[105, 102]⟩, ⟨#[125, 32, 116, 104, 101, 110]⟩, ⟨#[125, 32, 101, 108, 115, 101]⟩]
def kwLoop : List ByteArray := [⟨#[108, 111, 111, 112]⟩]
def kwTry : List ByteArray := [⟨#[116, 114, 121]⟩]
def wdsR (k n : Int) : List ByteArray := if k = 3 then kwCho else if k = 4 then kwIf else if k = 5 then kwLoop else if k = 6 then [fRep ++ digR n] else kwTry
def wdAt (ws : List ByteArray) (i : Nat) : ByteArray := ws.getD (min i (ws.length - 1)) ⟨#[]⟩
mutual
def fmC (bl : Bool) (ind : Nat) : Cm → ByteArray
  | .mk k s n c => if (bl && k == 2) = true then fmS ind c else if k = 1 then lineR ind (fApply ++ (s ++ fSemi)) else if k = 10 then lineR ind (fCall ++ (s ++ fSemi))
    else if k = 8 then lineR ind fSkip else if k = 9 then lineR ind fFail else fmK ind (wdsR k n) 0 c ++ lineR ind ⟨#[125]⟩
def fmS (ind : Nat) : List Cm → ByteArray
  | [] => ⟨#[]⟩
  | x :: r => fmC false ind x ++ fmS ind r
def fmK (ind : Nat) (ws : List ByteArray) : Nat → List Cm → ByteArray
  | _, [] => ⟨#[]⟩
  | i, x :: r => (lineR ind (wdAt ws i ++ fOpen) ++ fmC true (ind + 1) x) ++ fmK ind ws (i + 1) r
end
theorem fmC_eq (bl : Bool) (ind : Nat) (c : Cm) : fmC bl ind c = if (bl && c.kind == 2) = true then fmS ind c.kids else if c.kind = 1 then lineR ind (fApply ++ (c.name ++ fSemi)) else if c.kind = 10 then lineR ind (fCall ++ (c.name ++ fSemi))
    else if c.kind = 8 then lineR ind fSkip else if c.kind = 9 then lineR ind fFail else fmK ind (wdsR c.kind c.num) 0 c.kids ++ lineR ind ⟨#[125]⟩ := by
  cases c
  rw [fmC]
  rfl
theorem bEmpty_app (s : ByteArray) : (⟨#[]⟩ : ByteArray) ++ s = s := ByteArray.empty_append
theorem bApp_empty (s : ByteArray) : s ++ (⟨#[]⟩ : ByteArray) = s := ByteArray.append_empty
theorem fmS_app (ind : Nat) : ∀ (l k : List Cm), fmS ind (l ++ k) = fmS ind l ++ fmS ind k
  | [], k => by rw [List.nil_append, fmS, bEmpty_app]
  | x :: r, k => by rw [List.cons_append, fmS, fmS, fmS_app ind r k, ByteArray.append_assoc]
theorem fmS_take (ind : Nat) {l : List Cm} {i : Nat} (h : i < l.length) : fmS ind (l.take (i + 1)) = fmS ind (l.take i) ++ fmC false ind l[i] := by
  rw [List.take_succ_eq_append_getElem h, fmS_app, fmS, fmS, bApp_empty]
theorem fmK_app (ind : Nat) (ws : List ByteArray) : ∀ (l k : List Cm) (i : Nat), fmK ind ws i (l ++ k) = fmK ind ws i l ++ fmK ind ws (i + l.length) k
  | [], k, i => by rw [List.nil_append, fmK, bEmpty_app]; rfl
  | x :: r, k, i => by
    rw [List.cons_append, fmK, fmK, fmK_app ind ws r k, List.length_cons, show i + 1 + r.length = i + (r.length + 1) by omega, ByteArray.append_assoc]
    simp only [ByteArray.append_assoc]
theorem fmK_take (ind : Nat) (ws : List ByteArray) {l : List Cm} {i : Nat} (h : i < l.length) : fmK ind ws 0 (l.take (i + 1)) = fmK ind ws 0 (l.take i) ++ (lineR ind (wdAt ws i ++ fOpen) ++ fmC true (ind + 1) l[i]) := by
  rw [List.take_succ_eq_append_getElem h, fmK_app, fmK, fmK, bApp_empty, List.length_take, Nat.zero_add, Nat.min_eq_left (by omega)]
def fPro : ByteArray := ⟨#[112, 114, 111, 99, 101, 100, 117, 114, 101, 32]⟩
def fmP (q : Pr) : ByteArray := (lineR 0 (fPro ++ (q.name ++ fOpen)) ++ fmC true 1 q.body) ++ lineR 0 ⟨#[125]⟩
def fmPs : List Pr → ByteArray
  | [] => ⟨#[]⟩
  | q :: r => fmP q ++ fmPs r
theorem fmPs_app : ∀ (l k : List Pr), fmPs (l ++ k) = fmPs l ++ fmPs k
  | [], k => by rw [List.nil_append, fmPs, bEmpty_app]
  | x :: r, k => by rw [List.cons_append, fmPs, fmPs, fmPs_app r k, ByteArray.append_assoc]
theorem fmPs_take {l : List Pr} {i : Nat} (h : i < l.length) : fmPs (l.take (i + 1)) = fmPs (l.take i) ++ fmP l[i] := by
  rw [List.take_succ_eq_append_getElem h, fmPs_app, fmPs, fmPs, bApp_empty]
def fmtR (p : List Pr) : ByteArray × Int := if (faultR p [] false).2 ≠ 0 then (⟨#[]⟩, (faultR p [] false).2) else (fmPs p, 0)
theorem padR_size : ∀ n, (padR n).size = 2 * n
  | 0 => rfl
  | n + 1 => by rw [padR, ByteArray.size_append, padR_size n]; show 2 * n + 2 = _; omega
theorem lineR_size (ind : Nat) (s : ByteArray) : (lineR ind s).size = 2 * ind + s.size + 1 := by
  rw [lineR, ByteArray.size_append, ByteArray.size_append, padR_size]; show _ + (_ + 1) = _; omega
inductive Cm.Fm : Cm → Prop
  | mk {c : Cm} (hn : c.name.size ≤ 100) (ho : okB c = true) (hr : c.kind = 6 → 1 ≤ c.num ∧ c.num ≤ 9) (h : ∀ x ∈ c.kids, Cm.Fm x) : Cm.Fm c
theorem Cm.Fm.name {c : Cm} (h : c.Fm) : c.name.size ≤ 100 := by cases h; assumption
theorem Cm.Fm.okB {c : Cm} (h : c.Fm) : okB c = true := by cases h; assumption
theorem Cm.Fm.num {c : Cm} (h : c.Fm) : c.kind = 6 → 1 ≤ c.num ∧ c.num ≤ 9 := by cases h; assumption
theorem Cm.Fm.kid {c : Cm} (h : c.Fm) : ∀ x ∈ c.kids, Cm.Fm x := by cases h; assumption
theorem digR_size (n : Int) : (digR n).size ≤ 1 := by
  rw [digR, ByteArray.size_extract]
  omega
theorem wdAt_size {ws : List ByteArray} (h : ∀ w ∈ ws, w.size ≤ 20) (i : Nat) : (wdAt ws i).size ≤ 20 := by
  unfold wdAt
  rw [List.getD_eq_getElem?_getD]
  cases hx : ws[min i (ws.length - 1)]? with
  | none => show 0 ≤ 20; omega
  | some w => exact h w (List.mem_of_getElem? hx)
theorem wdsR_size (k n : Int) : ∀ w ∈ wdsR k n, w.size ≤ 20 := by
  unfold wdsR
  intro w hw
  split at hw
  · simp only [kwCho, List.mem_cons, List.not_mem_nil, or_false] at hw
    rcases hw with rfl | rfl <;> decide
  · split at hw
    · simp only [kwIf, List.mem_cons, List.not_mem_nil, or_false] at hw
      rcases hw with rfl | rfl | rfl <;> decide
    · split at hw
      · simp only [kwLoop, List.mem_cons, List.not_mem_nil, or_false] at hw
        subst hw; decide
      · split at hw
        · simp only [List.mem_cons, List.not_mem_nil, or_false] at hw
          subst hw
          have := digR_size n
          rw [ByteArray.size_append]
          show 7 + _ ≤ 20
          omega
        · simp only [kwTry, List.mem_cons, List.not_mem_nil, or_false] at hw
          subst hw; decide
theorem fmC_size : ∀ (m : Nat) (c : Cm), c.size < m → c.Fm → ∀ (bl : Bool) (ind : Nat), ind + c.depth ≤ 100 → (fmC bl ind c).size + 300 ≤ 2000 * c.size
  | 0, c, h, _ => absurd h (Nat.not_lt_zero _)
  | m + 1, c, h, hf => fun bl ind hd => by
    have hs := c.size_eq
    have hdp := c.depth_eq
    have hnm := hf.name
    have k1 : ∀ (l : List Cm), (∀ x ∈ l, x.size < m ∧ x.Fm) → ind + Cm.depthL l ≤ 100 → (fmS ind l).size ≤ 2000 * Cm.sizeL l := by
      intro l
      induction l with
      | nil => intro _ _; simp only [fmS]; show 0 ≤ _; omega
      | cons x r ih =>
        intro hx hdl
        simp only [Cm.depthL] at hdl
        obtain ⟨x1, x2⟩ := hx x (by simp)
        have h1 := fmC_size m x x1 x2 false ind (by omega)
        have h2 := ih (fun y hy => hx y (by simp [hy])) (by omega)
        simp only [fmS, Cm.sizeL, ByteArray.size_append]
        omega
    have k2 : ∀ (ws : List ByteArray) (l : List Cm) (i : Nat), (∀ w ∈ ws, w.size ≤ 20) → (∀ x ∈ l, x.size < m ∧ x.Fm) → ind + 1 + Cm.depthL l ≤ 100 → (fmK ind ws i l).size ≤ 2000 * Cm.sizeL l := by
      intro ws l
      induction l with
      | nil => intro i _ _ _; simp only [fmK]; show 0 ≤ _; omega
      | cons x r ih =>
        intro i hw hx hdl
        simp only [Cm.depthL] at hdl
        obtain ⟨x1, x2⟩ := hx x (by simp)
        have h1 := fmC_size m x x1 x2 true (ind + 1) (by omega)
        have h2 := ih (i + 1) hw (fun y hy => hx y (by simp [hy])) (by omega)
        have h3 := wdAt_size hw i
        have h4 : fOpen.size = 2 := rfl
        simp only [fmK, Cm.sizeL, ByteArray.size_append, lineR_size]
        omega
    have hx : ∀ x ∈ c.kids, x.size < m ∧ x.Fm := fun x hx => ⟨by have := Cm.kid_size hx; omega, hf.kid x hx⟩
    rw [fmC_eq]
    split
    · have := k1 c.kids hx (by omega); omega
    · split
      · simp only [lineR_size, ByteArray.size_append, show fApply.size = 6 from rfl, show fSemi.size = 2 from rfl]; omega
      · split
        · simp only [lineR_size, ByteArray.size_append, show fCall.size = 5 from rfl, show fSemi.size = 2 from rfl]; omega
        · split
          · simp only [lineR_size, show fSkip.size = 6 from rfl]; omega
          · split
            · simp only [lineR_size, show fFail.size = 6 from rfl]; omega
            · have := k2 (wdsR c.kind c.num) c.kids 0 (wdsR_size _ _) hx (by omega)
              simp only [lineR_size, ByteArray.size_append, show (⟨#[125]⟩ : ByteArray).size = 1 from rfl]
              omega
theorem nameB_size {s : ByteArray} (h : nameB s = true) : s.size ≤ 20 := by
  unfold nameB at h
  simp only [Bool.and_eq_true, decide_eq_true_eq] at h
  omega
theorem own_fm {p : List Pr} {rs : List ByteArray} {asked : Bool} {at' : Nat} {c : Cm} (h : ownE p rs asked at' c = 0) : okB c = true ∧ c.name.size ≤ 20 ∧ (c.kind = 6 → 1 ≤ c.num ∧ c.num ≤ 9) := by
  unfold ownE at h
  split at h
  · cases h
  rename_i ho
  have ho : okB c = true := by simpa using ho
  split at h
  · rename_i e
    split at h
    · cases h
    rename_i hn
    exact ⟨ho, nameB_size (by simpa using hn), fun h6 => absurd h6 (by omega)⟩
  split at h
  · rename_i e
    split at h
    · cases h
    rename_i hn
    exact ⟨ho, nameB_size (by simpa using hn), fun h6 => absurd h6 (by omega)⟩
  rename_i e1 e2
  have hn : c.name = ⟨#[]⟩ := by
    unfold okB at ho
    simp only [Bool.and_eq_true, Bool.or_eq_true, decide_eq_true_eq] at ho
    rcases ho.1.2 with h1 | h1
    · omega
    · exact h1
  refine ⟨ho, by rw [hn]; show 0 ≤ 20; omega, fun h6 => ?_⟩
  rw [if_pos h6] at h
  split at h
  · assumption
  · cases h
theorem cmd_fm {p : List Pr} {rs : List ByteArray} {asked : Bool} {at' : Nat} : ∀ (n : Nat) (c : Cm), c.size < n → cmdE p rs asked at' c = 0 → c.Fm
  | 0, c, h, _ => absurd h (Nat.not_lt_zero _)
  | n + 1, c, h, he => by
    rw [cmdE_eq] at he
    split at he
    · rename_i h1; exact absurd he h1
    · rename_i h1
      obtain ⟨a, b, d⟩ := own_fm (Decidable.not_not.1 h1)
      have key : ∀ l : List Cm, cmdEL p rs asked at' l = 0 → ∀ x ∈ l, cmdE p rs asked at' x = 0 := by
        intro l
        induction l with
        | nil => intro _ x hx; simp at hx
        | cons y r ih =>
          intro hl x hx
          rw [cmdEL] at hl
          split at hl
          · rename_i h2; exact absurd hl h2
          · rename_i h2
            rcases List.mem_cons.1 hx with rfl | hx
            · exact Decidable.not_not.1 h2
            · exact ih hl x hx
      exact .mk (by omega) a d fun x hx => cmd_fm n x (by have := Cm.kid_size hx; omega) (key _ he x hx)
theorem fault_fm {p : List Pr} (h : (faultR p [] false).2 = 0) : p.length ≤ 20 ∧ ∀ q ∈ p, q.name.size ≤ 20 ∧ q.body.size ≤ 60 ∧ q.body.depth ≤ 6 ∧ q.body.Fm := by
  obtain ⟨_, h1, _, h2⟩ := fault_valid h
  refine ⟨h1, fun q hq => ?_⟩
  obtain ⟨i, hi, rfl⟩ := List.getElem_of_mem hq
  have h3 := h2 i hi
  unfold prE at h3
  split at h3
  · cases h3
  rename_i hn
  split at h3
  · cases h3
  split at h3
  · cases h3
  exact ⟨nameB_size (by simpa using hn), by omega, by omega, cmd_fm _ _ (Nat.lt_succ_self _) h3⟩
theorem fmPs_size : ∀ (l : List Pr), (∀ q ∈ l, q.name.size ≤ 20 ∧ q.body.size ≤ 60 ∧ q.body.depth ≤ 6 ∧ q.body.Fm) → (fmPs l).size ≤ 130000 * l.length
  | [], _ => by simp only [fmPs]; show 0 ≤ _; omega
  | q :: r, h => by
    obtain ⟨h1, h2, h3, h4⟩ := h q (by simp)
    have h5 := fmC_size _ q.body (Nat.lt_succ_self _) h4 true 1 (by omega)
    have h6 := fmPs_size r fun x hx => h x (by simp [hx])
    simp only [fmPs, fmP, ByteArray.size_append, lineR_size, show fPro.size = 10 from rfl, show fOpen.size = 2 from rfl, show (⟨#[125]⟩ : ByteArray).size = 1 from rfl, List.length_cons]
    omega
end Go.AM
