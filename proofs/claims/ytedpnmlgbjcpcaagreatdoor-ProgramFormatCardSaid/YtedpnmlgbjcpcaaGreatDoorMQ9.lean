/-
  Parts of the proof, as merged from many texts: a machine over data, what the functions compute, plain laws.
-/
import Derived.Test.YtedpnmlgbjcpcaaGreatDoorMQ8
import Derived.WalkKit
import Derived.ProofKit
import Derived.OpenShut
import Derived.ChangeStays
import Derived.SizedLaws
import Derived.LaidMore
import Derived.Sort.Walk0
set_option linter.unusedSimpArgs false
set_option linter.unusedVariables false
namespace Go.AM
open Go Go.Proofs
def stFq (p : List Pr) (nb : Nat) (box : Nat → Option (List (List AV))) (a : AccW) : AState :=
  ⟨tl [(18, .d (prs p)), (19, I p.length), (20, I a.i), (6, .ptr (nb + 6) 0 0), (1, .ptr (nb + 1) 0 0)], lb nb box [(6, [[a.x, a.y]]), (1, [[.d (prs p)]])], a.tok, a.nt⟩
set_option maxRecDepth 100000 in
theorem format_c (p : List Pr) (hp : PrsOk p) (tok : Nat → Bool) (nt : Nat) : DCall Tryz.prog 13 [prsAv p] tok nt (.tup [Sb (fmtR p).1, I (fmtR p).2]) tok nt := by
  intro box nb
  have hfc := fault_c p [] false hp (by simp)
  have hN : fmtR p = if (faultR p [] false).2 ≠ 0 then (⟨#[]⟩, (faultR p [] false).2) else (fmPs p, 0) := rfl
  have hfm := @fault_fm p
  have hval := fault_valid (p := p) (rs := []) (asked := false)
  have hlen := hp.len
  generalize faultR p [] false = F at *
  refine sB Tryz.func13 Tryz.ntmps13 ?_
  intro hbox htok
  simp only at hbox htok
  apply AL.start
  have ht0 := TK.start htok
  try (simp)
  repeat (refine sR ?_; simp)
  refine Stop.sub (args' := [prsAv p, .d (rules46 []), B false]) ⟨Sub.refl _, Sub.nil _ _ _, Sub.refl _, trivial⟩ ?_
  refine Stop.of_d (hfc _ _) ?_
  simp
  by_cases he : F.2 = 0
  · rw [if_neg (by simp [he])] at hN
    obtain ⟨hl, hq⟩ := hfm he
    obtain ⟨_, _, h1p, _⟩ := hval he
    have be : (F.2 != 0) = false := by simp [he]
    have hall := fmPs_size p hq
    try (simp [be])
    repeat (first | (refine sR ?_; simp [be]) | (refine sC ?_; simp [be]) | (refine sX ?_; simp only [AU, ↓reduceIte]))
    refine sN ?_
    refine AL.loopT (stFq p nb box) (WInv (fun i => fmPs (p.take i)) p.length (nb + 6) ⟨#[]⟩ .full tok nt) (fun a => p.length - a.i) ⟨0, .here (nb + 6) WrT, nilS, .full, tok, nt⟩ (WInv.of (Nat.zero_le _) ⟨.inl rfl, .inl ⟨rfl, rfl, rfl⟩⟩ (Fol.refl trivial) (fun h => absurd h (Nat.lt_irrefl 0)))
      (Weaks.mk (Nat.le_refl _) rfl (by simp [ToL, lk]) (by simp [BoxL, lk])) ?_
    rintro ⟨i, x1, y1, o1, tok1, nt1⟩ S hinv hS
    obtain ⟨hi2, hw, hf, hxe⟩ := hinv
    simp only [stFq] at hS hi2 hw hf hxe ⊢
    subst hS
    have hwi : IntKind.i64.wrap ((i : Int) + 1) = ((i + 1 : Nat) : Int) := by rw [wrap_in (by omega) (by omega)]; rfl
    have hle := fmPs_le p i
    by_cases hlt : i < p.length
    · obtain ⟨q1, q2, q3, q4⟩ := hq _ (List.getElem_mem hlt)
      have hx := (wCmd_c _ p[i].body (Nat.lt_succ_self _) q4 (by omega) 1 (by omega)).2
      have ht2 := fmPs_take hlt
      have ht3 := fmPs_le p (i + 1)
      rw [ht2, fmP] at ht3
      simp only [ByteArray.size_append] at ht3
      try (simp [hlt])
      repeat (refine sR ?_; simp [hlt])
      refine sC ?_
      simp
      try (simp [hlt])
      repeat (refine sR ?_; simp [hlt])
      generalize p[i] = q at *
      have eA : (⟨#[112, 114, 111, 99, 101, 100, 117, 114, 101, 32]⟩ : ByteArray) ++ q.name ++ ⟨#[32, 123]⟩ = fPro ++ (q.name ++ fOpen) := ByteArray.append_assoc
      refine ⟨by (simp only [bsz, ByteArray.size_append, List.size_toArray, List.length_cons, List.length_nil]; omega), by (simp only [bsz, ByteArray.size_append, List.size_toArray, List.length_cons, List.length_nil]; omega), ?_⟩
      rw [eA]
      rw [bEmpty_app] at hw
      refine Stop.of_a (line_c (nb + 6) _ _ _ _ x1 y1 o1 _ hw (by simp [lb_at, lk]) hf.live 0 (by omega) _ (by omega)) ?_
      rintro v m ⟨rfl, t2, tok2, nt2, hf2, rfl⟩
      try (simp)
      repeat (refine sR ?_; simp)
      refine Stop.of_a (hx (nb + 6) _ _ _ _ (.ptr (nb + 6) 0 0) (bufA t2 (fmPs (p.take i) ++ lineR 0 (fPro ++ (q.name ++ fOpen)))) (.tok t2) (fmPs (p.take i) ++ lineR 0 (fPro ++ (q.name ++ fOpen))) Wst.wrote (by simp [lb_at, lk]) hf2.live (by rw [ByteArray.size_append]; omega)) ?_
      rintro v m ⟨rfl, t3, tok3, nt3, hf3, rfl⟩
      try (simp)
      repeat (refine sR ?_; simp)
      refine Stop.of_a (line_c (nb + 6) _ _ _ _ (.ptr (nb + 6) 0 0) (bufA t3 (fmPs (p.take i) ++ lineR 0 (fPro ++ (q.name ++ fOpen)) ++ fmC true 1 q.body)) (.tok t3) (fmPs (p.take i) ++ lineR 0 (fPro ++ (q.name ++ fOpen)) ++ fmC true 1 q.body) Wst.wrote (by simp [lb_at, lk]) hf3.live 0 (by omega) _ (by rw [ByteArray.size_append, ByteArray.size_append]; omega)) ?_
      rintro v m ⟨rfl, t4, tok4, nt4, hf4, rfl⟩
      try (simp [hwi])
      repeat (refine sR ?_; simp [hwi])
      refine sE ?_
      have hff := hf.trans (hf2.trans (hf3.trans hf4))
      have eS : (⟨#[]⟩ : ByteArray) ++ fmPs (p.take (i + 1)) = fmPs (p.take i) ++ lineR 0 (fPro ++ (q.name ++ fOpen)) ++ fmC true 1 q.body ++ lineR 0 ⟨#[125]⟩ := by
        rw [bEmpty_app, ht2, fmP]
        simp only [ByteArray.append_assoc]
      refine ⟨⟨i + 1, .ptr (nb + 6) 0 0, bufA t4 (fmPs (p.take i) ++ lineR 0 (fPro ++ (q.name ++ fOpen)) ++ fmC true 1 q.body ++ lineR 0 ⟨#[125]⟩), .tok t4, tok4, nt4⟩, WInv.of hlt (by simp only [eS]; exact Wst.wrote) hff (fun _ => ⟨rfl, _, rfl⟩), by simp only; omega, ?_⟩
      simp only [stFq]
      exact Weaks.mk hff.le rfl (by simp [ToL, lk]) (by simp [BoxL, lk])
    · have : i = p.length := by omega
      subst this
      rw [List.take_length, bEmpty_app] at hw
      obtain ⟨rfl, t3, rfl⟩ := hxe (by omega)
      have hy : y1 = bufA t3 (fmPs p) := by
        rcases hw.y with ⟨_, _, e⟩ | ⟨t, e, e3⟩
        · cases e
        · cases e; exact e3
      subst hy
      have hpos : 0 < (fmPs p).size := by
        have h0 : 0 < p.length := by omega
        have h1 := fmPs_le p 1
        have h2 := fmPs_take (l := p) (i := 0) h0
        have h3 : (fmP p[0]).size ≤ (fmPs (p.take 1)).size := by rw [h2, ByteArray.size_append]; omega
        have h4 : 0 < (fmP p[0]).size := by simp only [fmP, ByteArray.size_append, lineR_size]; omega
        omega
      have hlv : tok1 t3 = true := hf.live
      try (simp [hlt])
      repeat (refine sR ?_; simp [hlt])
      refine sC ?_
      simp
      refine sX ?_
      simp only [AU, ↓reduceIte]
      try (simp)
      repeat (refine sR ?_; simp)
      refine Stop.of_a (stringB_c (nb + 6) _ _ _ _ (.ptr (nb + 6) 0 0) t3 (fmPs p) hpos (by simp [lb_at, lk]) hlv) ?_
      rintro v m ⟨rfl, rfl⟩
      have htk := hf.tk tok nt [] ht0.full
      have hold : ∀ t, tok t = true → (upd tok1 t3 false) t = true := by
        intro t ht
        have h1 := (htk.own _ (by simp) t3 rfl).2.1
        have h2 := htk.lt t ht
        rw [upd_other _ _ (by omega)]
        exact htk.old t ht
      try (simp)
      repeat (refine sR ?_; simp)
      refine sT ?_
      try simp only [AU]
      refine ⟨by simp, sF hbox htok hold htk.le ?_⟩
      simp [packA, hN]
  · rw [if_pos he] at hN
    have be : (F.2 != 0) = true := by simp [he]
    try (simp [be])
    repeat (first | (refine sR ?_; simp [be]) | (refine sC ?_; simp [be]) | (refine sX ?_; simp only [AU, ↓reduceIte]))
    refine sT ?_
    try simp only [AU]
    refine ⟨by simp, sF hbox htok (fun _ h => h) (Nat.le_refl _) ?_⟩
    simp [packA, hN]
end Go.AM
namespace Go.AM
open Go Go.Proofs
@[simp] theorem lb_base46 (base : Nat) (out : Nat → Option (List (List AV))) (loc : List (Nat × List (List AV))) : lb base out loc base = lk loc 0 := lb_at base 0 out loc
@[simp] theorem upd_lb_base46 (base : Nat) (out : Nat → Option (List (List AV))) (loc : List (Nat × List (List AV))) (rows : List (List AV)) : upd (lb base out loc) base (some rows) = lb base out ((0, rows) :: loc) := upd_lb base 0 out loc rows
@[simp] theorem to_ptr_base46 {q : Nat → Prop} {fz : Option (Nat × Nat × List (List D))} {base i off : Nat} {out : Nat → Option (List (List AV))} {loc : List (Nat × List (List AV))} : To (fun k => lb base out loc k ≠ none) q fz (.ptr base i off) (.ptr base i off) ↔ lk loc 0 ≠ none := to_ptr_lb (s := 0)
def stEq (xs ys : List ByteArray) (nb : Nat) (box : Nat → Option (List (List AV))) (tok : Nat → Bool) (nt : Nat) (i : Nat) : AState :=
  ⟨tl [(0, .d (strs xs)), (1, .d (strs ys)), (12, I xs.length), (13, I i)], lb nb box [], tok, nt⟩
set_option maxRecDepth 100000 in
theorem equalS_c (xs ys : List ByteArray) (hx : xs.length ≤ 1000000000) (hy : ys.length ≤ 1000000000) (tok : Nat → Bool) (nt : Nat) : DCall Tryz.prog 22 [.d (strs xs), .d (strs ys)] tok nt (B (decide (xs = ys))) tok nt := by
  intro box nb
  refine sB Tryz.func22 Tryz.ntmps22 ?_
  intro hbox htok
  simp only at hbox htok
  apply AL.start
  by_cases hl : xs.length = ys.length
  · have hl' : (xs.length : Int) = ys.length := by omega
    try (simp [hl'])
    repeat (first | (refine sR ?_; simp [hl']) | (refine sC ?_; simp [hl']) | (refine sX ?_; simp only [AU, ↓reduceIte]))
    refine sN ?_
    refine AL.loopT (stEq xs ys nb box tok nt) (fun i => i ≤ xs.length ∧ xs.take i = ys.take i) (fun i => xs.length - i) 0 ⟨Nat.zero_le _, by simp⟩ (Weaks.mk (Nat.le_refl _) rfl (by simp [ToL, lk, hl]) trivial) ?_
    rintro i S' ⟨hi, htk⟩ hS
    simp only [stEq] at hS
    subst hS
    have hw := sW (i := i) (by omega)
    by_cases hlt : i < xs.length
    · have hlt2 : i < ys.length := by omega
      by_cases he : xs[i] = ys[i]
      · have b : (xs[i].toList == ys[i].toList) = true := by rw [seq_dec]; simpa using he
        have b2 : (xs[i].toList != ys[i].toList) = false := by simp [bne, b]
        try (simp [hlt, hlt2])
        repeat (refine sR ?_; simp [hlt, hlt2])
        refine sC ?_
        simp
        try (simp [hlt, hlt2, b2, b, he])
        repeat (first | (refine sR ?_; simp [hlt, hlt2, b2, b, he]) | (refine sC ?_; simp [hlt, hlt2, b2, b, he]) | (refine sX ?_; simp only [AU, ↓reduceIte]))
        try (simp [hw])
        repeat (first | (refine sR ?_; simp [hw]) | (refine sC ?_; simp [hw]) | (refine sX ?_; simp only [AU, ↓reduceIte]))
        refine sE ?_
        refine ⟨i + 1, ⟨hlt, ?_⟩, by omega, Weaks.mk (Nat.le_refl _) rfl (by simp [ToL, lk]) trivial⟩
        rw [List.take_succ_eq_append_getElem hlt, List.take_succ_eq_append_getElem hlt2, htk, he]
      · have b : (xs[i].toList == ys[i].toList) = false := by rw [seq_dec]; simpa using he
        have b2 : (xs[i].toList != ys[i].toList) = true := by simp [bne, b]
        have hne : ¬ xs = ys := fun e => he (by subst e; rfl)
        try (simp [hlt, hlt2])
        repeat (refine sR ?_; simp [hlt, hlt2])
        refine sC ?_
        simp
        try (simp [hlt, hlt2, b2, b, he])
        repeat (first | (refine sR ?_; simp [hlt, hlt2, b2, b, he]) | (refine sC ?_; simp [hlt, hlt2, b2, b, he]) | (refine sX ?_; simp only [AU, ↓reduceIte]))
        refine sT ?_
        try simp only [AU]
        refine ⟨by simp, sF hbox htok (fun _ h => h) (Nat.le_refl _) ?_⟩
        simp [packA, hne]
    · have hxy : xs = ys := by rw [List.take_of_length_le (by omega), List.take_of_length_le (by omega)] at htk; exact htk
      try (simp [hlt])
      repeat (refine sR ?_; simp [hlt])
      refine sC ?_
      simp
      refine sX ?_
      simp only [AU, ↓reduceIte]
      try (simp)
      repeat (refine sR ?_; simp)
      refine sT ?_
      try simp only [AU]
      refine ⟨by simp, sF hbox htok (fun _ h => h) (Nat.le_refl _) ?_⟩
      simp [packA, hxy]
  · have hl' : ¬ (xs.length : Int) = ys.length := by omega
    have hne : ¬ xs = ys := fun e => hl (by rw [e])
    have b2 : ((xs.length : Int) != ys.length) = true := by simp [hl']
    try (simp [hl', b2, hl])
    repeat (first | (refine sR ?_; simp [hl', b2, hl]) | (refine sC ?_; simp [hl', b2, hl]) | (refine sX ?_; simp only [AU, ↓reduceIte]))
    refine sT ?_
    try simp only [AU]
    refine ⟨by simp, sF hbox htok (fun _ h => h) (Nat.le_refl _) ?_⟩
    simp [packA, hne]
theorem hasPrefix_c (s p : ByteArray) (tok : Nat → Bool) (nt : Nat) : DCall Tryz.prog 37 [Sb s, Sb p] tok nt (B (Lib.hasPrefix s.data.toList p.data.toList)) tok nt := by
  intro box nb
  refine ⟨Enters.mk Tryz.func37 rfl (by kernel_rfl), fun G w vals hm hr => ?_⟩
  obtain ⟨hlen, hrv⟩ := hr
  match vals, hlen with
  | [v, u], _ =>
    have h0 := hrv 0 (by simp) (by simp)
    have h1 := hrv 1 (by simp) (by simp)
    simp only [List.getElem_cons_zero, List.getElem_cons_succ] at h0 h1
    cases h0 with | d h0 =>
    cases h1 with | d h1 =>
    cases h0
    cases h1
    refine (Tryz.strings_HasPrefix s p w).mono ?_
    rintro e w' ⟨rfl, rfl⟩
    exact ⟨_, _, _, G, rfl, ⟨rfl, rfl⟩, rfl, hm, .d (.raw rfl), Le.refl _ _, fun k hk => ⟨hk, rfl⟩⟩
def nMerge : ByteArray := ⟨#[109, 101, 114, 103, 101]⟩
def nPay : ByteArray := ⟨#[112, 97, 121]⟩
def nTidy : ByteArray := ⟨#[116, 105, 100, 121]⟩
def nMain : ByteArray := ⟨#[109, 97, 105, 110]⟩
def cApply (s : ByteArray) : Cm := .mk 1 s 0 []
def exLoop : Cm := .mk 5 ⟨#[]⟩ 0 [cApply nMerge]
def exMain : Cm := .mk 2 ⟨#[]⟩ 0 [cApply nPay, .mk 10 nTidy 0 []]
def exP : List Pr := [⟨nTidy, exLoop⟩, ⟨nMain, exMain⟩]
theorem apply1_c (s : ByteArray) (tok : Nat → Bool) (nt : Nat) : DCall Tryz.prog 71 [Sb s] tok nt (cApply s).av tok nt := by
  intro box nb
  refine sB Tryz.func71 Tryz.ntmps71 ?_
  intro hbox htok
  simp only at hbox htok
  apply AL.start
  try (simp)
  repeat (first | (refine sR ?_; simp) | (refine sC ?_; simp) | (refine sX ?_; simp only [AU, ↓reduceIte]))
  refine sT ?_
  try simp only [AU]
  refine ⟨by simp, sF hbox htok (fun _ h => h) (Nat.le_refl _) ?_⟩
  simp [packA, cApply, Cm.kind, Cm.name, Cm.num, Cm.kids, cms]
theorem dssN46 : DSs [] [] := ⟨rfl, fun i h => by simp at h⟩
theorem dssC46 {r r' : List D} {rs rs' : List (List D)} (h : DS1 r r') (k : DSs rs rs') : DSs (r :: rs) (r' :: rs') :=
  ⟨by simp [k.1], fun i h1 h2 => by
    cases i with
    | zero => exact h
    | succ i => exact k.2 i (by simpa using h1) (by simpa using h2)⟩
abbrev lStr (s : ByteArray) : D := .raw (.string s)
abbrev lInt (n : Int) : D := .raw (.int .i64 n)
theorem ex_sub : DSub (.sl 5 [[lStr nTidy, lInt 5, lStr ⟨#[]⟩, lInt 0, .sl 4 [[lInt 1, lStr nMerge, lInt 0, .sl 4 []]]], [lStr nMain, lInt 2, lStr ⟨#[]⟩, lInt 0, .sl 4 [[lInt 1, lStr nPay, lInt 0, .sl 4 []], [lInt 10, lStr nTidy, lInt 0, .sl 0 []]]]]) (prs exP) := by
  have h : DSub (.sl 4 [[lInt 1, lStr nPay, lInt 0, .sl 4 []], [lInt 10, lStr nTidy, lInt 0, .sl 0 []]]) (.sl 4 [[lInt 1, lStr nPay, lInt 0, .sl 4 []], [lInt 10, lStr nTidy, lInt 0, .sl 4 []]]) := DSs.sub (dssC46 (by simp) (dssC46 (by simp) dssN46)) 4
  show DSub _ (.sl 5 [[lStr nTidy, lInt 5, lStr ⟨#[]⟩, lInt 0, .sl 4 [[lInt 1, lStr nMerge, lInt 0, .sl 4 []]]], [lStr nMain, lInt 2, lStr ⟨#[]⟩, lInt 0, .sl 4 [[lInt 1, lStr nPay, lInt 0, .sl 4 []], [lInt 10, lStr nTidy, lInt 0, .sl 4 []]]]])
  exact DSs.sub (dssC46 (by simp) (dssC46 (by simp [h]) dssN46)) 5
set_option maxRecDepth 100000 in
theorem example_c (tok : Nat → Bool) (nt : Nat) : DCall Tryz.prog 36 [] tok nt (prsAv exP) tok nt := by
  intro box nb
  have h1 := apply1_c nMerge
  have h2 := apply1_c nPay
  refine sB Tryz.func36 Tryz.ntmps36 ?_
  intro hbox htok
  simp only at hbox htok
  apply AL.start
  try (simp)
  repeat (first | (refine sR ?_; simp) | (refine sC ?_; simp) | (refine sX ?_; simp only [AU, ↓reduceIte]))
  refine Stop.of_d (h1 _ _) ?_
  simp
  try (simp)
  repeat (first | (refine sR ?_; simp) | (refine sC ?_; simp) | (refine sX ?_; simp only [AU, ↓reduceIte]))
  refine Stop.of_d (h2 _ _) ?_
  simp
  try (simp)
  repeat (first | (refine sR ?_; simp) | (refine sC ?_; simp) | (refine sX ?_; simp only [AU, ↓reduceIte]))
  refine ⟨rfl, ?_⟩
  try (simp)
  repeat (first | (refine sR ?_; simp) | (refine sC ?_; simp) | (refine sX ?_; simp only [AU, ↓reduceIte]))
  refine ⟨rfl, ?_⟩
  try (simp)
  repeat (first | (refine sR ?_; simp) | (refine sC ?_; simp) | (refine sX ?_; simp only [AU, ↓reduceIte]))
  refine sT ?_
  try simp only [AU]
  refine ⟨by simp, sF hbox htok (fun _ h => h) (Nat.le_refl _) ?_⟩
  simp [packA, cApply, Cm.kind, Cm.name, Cm.num, Cm.kids, cms]
  exact .odsub ex_sub
end Go.AM
namespace Go.AM
open Go Go.Proofs
structure AccP where
  x : TS
  ls : List Int
  o1 : Own
  o2 : Own
  tok : Nat → Bool
  nt : Nat
  f : Nat
structure PInv (L : List Tk) (R : TS) (mtok : Nat → Bool) (nt0 : Nat) (a : AccP) : Prop where
  ok : TOk L a.x
  f : rem L a.x.r ≤ a.f
  e : topR L a.f a.x = R
  l : a.x.r.bad < 0 → a.ls = a.x.ls
  n : a.ls.length ≤ a.x.ps.length
  k : TK mtok nt0 a.tok a.nt [a.o1, a.o2]
theorem PInv.of {L : List Tk} {R : TS} {mtok : Nat → Bool} {nt0 : Nat} {x : TS} {ls : List Int} {o1 o2 : Own} {tok : Nat → Bool} {nt f : Nat} (h1 : TOk L x) (h2 : rem L x.r ≤ f) (h3 : topR L f x = R) (h4 : x.r.bad < 0 → ls = x.ls) (h5 : ls.length ≤ x.ps.length) (h6 : TK mtok nt0 tok nt [o1, o2]) :
    PInv L R mtok nt0 ⟨x, ls, o1, o2, tok, nt, f⟩ := ⟨h1, h2, h3, h4, h5, h6⟩
def stPa (L : List Tk) (nb : Nat) (box : Nat → Option (List (List AV))) (a : AccP) : AState :=
  ⟨tl [(5, .d (tks L)), (8, .ptr (nb + 27) 0 0), (9, .ptr (nb + 9) 0 0), (2, .ptr (nb + 2) 0 0), (10, .osl 1 (a.ls.map fun n => [.raw (.int .i64 n)]) a.o1)],
    lb nb box [(27, [a.x.r.row L]), (9, [[.osl 5 (a.x.ps.map Pr.cells) a.o2]]), (2, [[nilS]])], a.tok, a.nt⟩
theorem topS_peek {L : List Tk} {x : TS} (h : x.r.Ok L) (hb : (topS L x).r.bad < 0) : peekB L x.r sPro = true := by
  rcases Bool.eq_false_or_eq_true (peekB L x.r sPro) with hp | hp
  · exact hp
  · exfalso
    have h1 := AdvS.take h sPro
    have h2 := AdvS.kind h1.ok 1
    have h5 := (p_adv L (L.length + 1)).2 _ h2.ok
    have e1 : ¬ (takeR L x.r sPro).bad < 0 := by
      rw [takeR, if_neg (by simp [hp])]
      unfold failR
      split
      · simp only; omega
      · rename_i hx; exact hx
    have e2 := h2.bd (by omega)
    rw [e2] at h5
    have e3 := h5.bd (by omega)
    unfold topS at hb
    simp only [e2] at hb
    simp only at e3
    rw [e3] at hb
    exact e1 hb
structure AccQ where
  ls : List Int
  o1 : Own
  tok : Nat → Bool
  nt : Nat
structure QInv (L : List Tk) (r : RS) (ls : List Int) (o2 : Own) (mtok : Nat → Bool) (nt0 : Nat) (q : AccQ) : Prop where
  p : peekB L r sPro = true → q.ls = ls ++ [lineAt L r.at']
  n : q.ls.length ≤ ls.length + 1
  k : TK mtok nt0 q.tok q.nt [q.o1, o2]
def stPq (L : List Tk) (nb : Nat) (box : Nat → Option (List (List AV))) (x : TS) (o2 : Own) (q : AccQ) : AState :=
  ⟨tl [(5, .d (tks L)), (8, .ptr (nb + 27) 0 0), (9, .ptr (nb + 9) 0 0), (2, .ptr (nb + 2) 0 0), (10, .osl 1 (q.ls.map fun n => [.raw (.int .i64 n)]) q.o1)],
    lb nb box [(27, [x.r.row L]), (9, [[.osl 5 (x.ps.map Pr.cells) o2]]), (2, [[nilS]])], q.tok, q.nt⟩
set_option maxRecDepth 100000 in
theorem parse_c (s : ByteArray) (hs : s.size ≤ 200000000000000) (tok : Nat → Bool) (nt : Nat) : DCall Tryz.prog 15 [Sb s] tok nt (.tup [prsAv (parseR s).1, I (parseR s).2.1, I (parseR s).2.2]) tok nt := by
  intro box nb
  have ht := tokens_c s hs
  obtain ⟨hT, hL⟩ := toksR_ok s
  obtain ⟨N, hN⟩ : ∃ N, parseR s = N := ⟨_, rfl⟩
  rw [hN]
  unfold parseR at hN
  generalize toksR s = K at *
  refine sB Tryz.func15 Tryz.ntmps15 ?_
  intro hbox htok
  simp only at hbox htok
  apply AL.start
  have ht0 := TK.start htok
  try (simp)
  repeat (refine sR ?_; simp)
  refine Stop.of_d (ht _ _) ?_
  simp
  try (simp)
  repeat (refine sR ?_; simp)
  by_cases he : K.2.2 = 0
  · rw [if_neg (by simp [he])] at hN
    have be : (K.2.2 != 0) = false := by simp [he]
    generalize K.1 = L at *
    have hT2 : ∀ t ∈ L, t.text.size ≤ 200000000000000 := fun t h => by have := hT t h; omega
    simp only [be]
    try (simp)
    repeat (first | (refine sR ?_; simp) | (refine sC ?_; simp) | (refine sX ?_; simp only [AU, ↓reduceIte]))
    refine sN ?_
    obtain ⟨R, hR⟩ : ∃ R, topR L (L.length + 1) ⟨⟨0, -1⟩, [], []⟩ = R := ⟨_, rfl⟩
    unfold parseL at hN
    rw [hR] at hN
    refine AL.loopT (stPa L nb box) (PInv L R tok nt) (fun a => a.f) ⟨⟨⟨0, -1⟩, [], []⟩, [], .full, .full, tok, nt, L.length + 1⟩ (PInv.of (TOk.start L) (by simp [rem]) hR (fun _ => rfl) (by simp) ht0.full.full)
      (Weaks.mk (Nat.le_refl _) rfl (by simp [ToL, lk]) (by simp [BoxL, lk])) ?_
    rintro ⟨x, ls, o1, o2, tok1, nt1, f⟩ S hinv hS
    obtain ⟨ho, hf, hRR, hls, hn, htk⟩ := hinv
    simp only [stPa] at hS ho hf hRR hls hn htk ⊢
    subst hS
    have hok := ho.ok
    have hps := ho.ln
    by_cases hc : x.r.bad < 0 ∧ (x.r.at' < L.length ∨ L.length = 0)
    · obtain ⟨hb, hc2⟩ := hc
      have hpos := rem_pos hb hok
      obtain ⟨f, rfl⟩ : ∃ f', f = f' + 1 := ⟨f - 1, by omega⟩
      rw [topR, if_pos ⟨hb, hc2⟩] at hRR
      obtain ⟨hto, hlt⟩ := topS_ok (by omega) hT2 ho hb
      have pk := peek_c L x.r sPro (nb + 27)
      have hrl := rem_le L x.r
      refine sN ?_
      refine AL.cutP (l := [_, _]) (stPa L nb box ⟨x, ls, o1, o2, tok1, nt1, f⟩) True ?_ fun _ => ?_
      · by_cases h1 : x.r.at' < L.length
        · have h1' : (x.r.at' : Int) < L.length := by omega
          try (simp [lk, hb, h1'])
          repeat (first | (refine sR ?_; simp [lk, hb, h1']) | (refine sC ?_; simp [lk, hb, h1']) | (refine sX ?_; simp only [AU, ↓reduceIte]))
          refine sE ?_
          first | exact ⟨trivial, (Weaks.mk htk.le rfl (by simp [stPa, ToL, lk]) (by simp [stPa, BoxL, lk]))⟩ | exact (Weaks.mk htk.le rfl (by simp [stPa, ToL, lk]) (by simp [stPa, BoxL, lk]))
        · have h1' : ¬ (x.r.at' : Int) < L.length := by omega
          have h2' : ((L.length : Int) == 0) = true := by rw [beq_iff_eq]; omega
          try (simp [lk, hb, h1', h2'])
          repeat (first | (refine sR ?_; simp [lk, hb, h1', h2']) | (refine sC ?_; simp [lk, hb, h1', h2']) | (refine sX ?_; simp only [AU, ↓reduceIte]))
          refine sE ?_
          first | exact ⟨trivial, (Weaks.mk htk.le rfl (by simp [stPa, ToL, lk]) (by simp [stPa, BoxL, lk]))⟩ | exact (Weaks.mk htk.le rfl (by simp [stPa, ToL, lk]) (by simp [stPa, BoxL, lk]))
      · simp only [stPa]
        refine sN ?_
        refine AL.cut (l := [_, _]) (stPq L nb box x o2) (QInv L x.r ls o2 tok nt) ?_ ?_
        · try (simp)
          repeat (refine sR ?_; simp)
          refine Stop.of_a (pk _ (by simp [lb_at, lk]) _ _ _) ?_
          rintro v m ⟨rfl, rfl⟩
          cases hp : peekB L x.r sPro
          · try (simp)
            repeat (first | (refine sR ?_; simp) | (refine sC ?_; simp) | (refine sX ?_; simp only [AU, ↓reduceIte]))
            refine sE ?_
            exact ⟨⟨ls, o1, tok1, nt1⟩, ⟨by simp [hp], by simp, htk⟩, Weaks.mk htk.le rfl (by simp [stPq, ToL, lk]) (by simp [stPq, BoxL, lk])⟩
          · have hpp := hp
            unfold peekB at hpp
            simp only [Bool.and_eq_true, decide_eq_true_eq] at hpp
            have hpa := at_lt hpp.2
            have hpa' : (x.r.at' : Int) < L.length := by omega
            have hli : lineAt L x.r.at' = L[x.r.at'].line := by simp [lineAt, hpa]
            try (simp [lk, hpa, hpa'])
            repeat (first | (refine sR ?_; simp [lk, hpa, hpa']) | (refine sC ?_; simp [lk, hpa, hpa']) | (refine sX ?_; simp only [AU, ↓reduceIte]))
            refine ⟨⟨by omega, htk.live⟩, ?_⟩
            try (simp)
            repeat (first | (refine sR ?_; simp) | (refine sC ?_; simp) | (refine sX ?_; simp only [AU, ↓reduceIte]))
            refine sE ?_
            exact ⟨⟨ls ++ [lineAt L x.r.at'], .tok nt1, upd (o1.kill tok1) nt1 true, nt1 + 1⟩, ⟨fun _ => rfl, by simp, htk.app⟩, Weaks.mk (by have := htk.le; omega) rfl (by simp [stPq, ToL, lk, hli]) (by simp [stPq, BoxL, lk])⟩
        · rintro ⟨ls2, o3, tok2, nt2⟩ hq
          obtain ⟨hqp, hqn, htk2⟩ := hq
          simp only [stPq] at hqp hqn htk2 ⊢
          have hpeek := topS_peek (L := L) hok
          have t1 := take_c L x.r hok (by omega) sPro (nb + 27)
          have h1 := AdvS.take hok sPro
          have hT1 : topS L x = ⟨(pBlk L (L.length + 1) (kindR L (takeR L x.r sPro) 1).2).2, x.ps ++ [⟨(kindR L (takeR L x.r sPro) 1).1, (pBlk L (L.length + 1) (kindR L (takeR L x.r sPro) 1).2).1⟩], x.ls ++ [lineAt L x.r.at']⟩ := rfl
          generalize takeR L x.r sPro = r1 at *
          have k1 := kind_c L r1 h1.ok (by omega) 1 (nb + 27)
          have h2 := AdvS.kind h1.ok 1
          obtain ⟨w, r2, hw⟩ : ∃ w r2, kindR L r1 1 = (w, r2) := ⟨_, _, rfl⟩
          rw [hw] at k1 h2 hT1
          simp only at k1 h2 hT1
          have b1 := (p_all L (by omega) hT2 (L.length + 1)).2 r2 h2.ok (rem_le L r2) (nb + 27)
          obtain ⟨c, r3, hc3⟩ : ∃ c r3, pBlk L (L.length + 1) r2 = (c, r3) := ⟨_, _, rfl⟩
          rw [hc3] at hT1
          simp only [hc3] at b1 hT1
          try (simp)
          repeat (first | (refine sR ?_; simp) | (refine sC ?_; simp) | (refine sX ?_; simp only [AU, ↓reduceIte]))
          refine Stop.of_a (t1 _ (by simp [lb_at, lk]) _ _ _) ?_
          rintro v m ⟨rfl, rfl⟩
          try (simp)
          repeat (first | (refine sR ?_; simp) | (refine sC ?_; simp) | (refine sX ?_; simp only [AU, ↓reduceIte]))
          refine Stop.of_a (k1 _ (by simp [lb_at, lk]) _ _ _) ?_
          rintro v m ⟨rfl, rfl⟩
          try (simp)
          repeat (first | (refine sR ?_; simp) | (refine sC ?_; simp) | (refine sX ?_; simp only [AU, ↓reduceIte]))
          refine Stop.of_a (b1 _ (by simp [lb_at, lk]) _ _ _) ?_
          rintro v m ⟨rfl, rfl⟩
          try (simp [lk])
          repeat (first | (refine sR ?_; simp [lk]) | (refine sC ?_; simp [lk]) | (refine sX ?_; simp only [AU, ↓reduceIte]))
          refine ⟨⟨by omega, htk2.swap.live⟩, ?_⟩
          try (simp)
          repeat (first | (refine sR ?_; simp) | (refine sC ?_; simp) | (refine sX ?_; simp only [AU, ↓reduceIte]))
          refine sE ?_
          refine ⟨⟨topS L x, ls2, o3, .tok nt2, upd (o2.kill tok2) nt2 true, nt2 + 1, f⟩, PInv.of hto (by omega) hRR (fun hb2 => ?_) ?_ htk2.swap.app.swap, by simp only; omega, ?_⟩
          · rw [hqp (hpeek hb2), hls hb]; rfl
          · rw [hT1]; simp; omega
          · simp only [stPa, hT1]
            exact Weaks.mk (by have := htk2.le; omega) rfl (by simp [ToL, lk]) (by simp [BoxL, lk, Pr.cells])
    · have hRx : R = x := by
        cases f with
        | zero => exact hRR.symm
        | succ f => rw [topR, if_neg hc] at hRR; exact hRR.symm
      have hexit : ¬ x.r.bad < 0 ∨ (¬ x.r.at' < L.length ∧ ¬ L.length = 0) := by omega
      rw [hRx] at hN
      have hfc := fault_c x.ps [] false (ho.prs (by omega)) (by simp)
      have hrg := faultR_rng x.ps [] false
      have hlsl := ho.ls
      have hrl := rem_le L x.r
      by_cases hb0 : 0 ≤ x.r.bad
      · have hb : ¬ x.r.bad < 0 := by omega
        by_cases hz : L.length = 0
        · rw [if_pos hz] at hN
          have hz' : ((L.length : Int) == 0) = true := by rw [beq_iff_eq]; omega
          try (simp [lk, hb])
          repeat (first | (refine sR ?_; simp [lk, hb]) | (refine sC ?_; simp [lk, hb]) | (refine sX ?_; simp only [AU, ↓reduceIte]))
          try (simp [lk, hb0, hz'])
          repeat (first | (refine sR ?_; simp [lk, hb0, hz']) | (refine sC ?_; simp [lk, hb0, hz']) | (refine sX ?_; simp only [AU, ↓reduceIte]))
          refine sT ?_
          try simp only [AU]
          refine ⟨by simp, sF hbox htok htk.old htk.le ?_⟩
          simp [packA, ← hN, prs]
        · rw [if_neg hz, if_pos hb0] at hN
          have hz' : ((L.length : Int) == 0) = false := by rw [beq_eq_false_iff_ne]; omega
          by_cases hge : (L.length : Int) ≤ x.r.bad
          · have hbl : badLine L x.r.bad = lineAt L (L.length - 1) := by unfold badLine; rw [if_neg (by omega)]
            have hli : lineAt L (L.length - 1) = L[L.length - 1].line := by simp [lineAt, show L.length - 1 < L.length by omega]
            rw [hbl, hli] at hN
            have hw : IntKind.i64.wrap ((L.length : Int) - 1) = (L.length : Int) - 1 := wrap_in (by omega) (by omega)
            have q1 : (0 : Int) ≤ (L.length : Int) - 1 := by omega
            have q2 : ((L.length : Int) - 1).toNat = L.length - 1 := by omega
            have q3 : L.length - 1 < L.length := by omega
            have q4 : (L.length : Int) - 1 < L.length := by omega
            try (simp [lk, hb])
            repeat (first | (refine sR ?_; simp [lk, hb]) | (refine sC ?_; simp [lk, hb]) | (refine sX ?_; simp only [AU, ↓reduceIte]))
            try (simp [lk, hb0, hz', hge, hw, q1, q2, q3, q4])
            repeat (first | (refine sR ?_; simp [lk, hb0, hz', hge, hw, q1, q2, q3, q4]) | (refine sC ?_; simp [lk, hb0, hz', hge, hw, q1, q2, q3, q4]) | (refine sX ?_; simp only [AU, ↓reduceIte]))
            refine ⟨by omega, ?_⟩
            try (simp [q1, q2, q3, q4])
            repeat (first | (refine sR ?_; simp [q1, q2, q3, q4]) | (refine sC ?_; simp [q1, q2, q3, q4]) | (refine sX ?_; simp only [AU, ↓reduceIte]))
            refine sT ?_
            try simp only [AU]
            refine ⟨by simp, sF hbox htok htk.old htk.le ?_⟩
            simp [packA, ← hN, prs]
          · have hbt : x.r.bad.toNat < L.length := by omega
            have hbl : badLine L x.r.bad = L[x.r.bad.toNat].line := by unfold badLine; rw [if_pos (by omega)]; simp [lineAt, hbt]
            have hlt' : x.r.bad < L.length := by omega
            rw [hbl] at hN
            try (simp [lk, hb])
            repeat (first | (refine sR ?_; simp [lk, hb]) | (refine sC ?_; simp [lk, hb]) | (refine sX ?_; simp only [AU, ↓reduceIte]))
            try (simp [lk, hb0, hz', hge, hbt, hlt'])
            repeat (first | (refine sR ?_; simp [lk, hb0, hz', hge, hbt, hlt']) | (refine sC ?_; simp [lk, hb0, hz', hge, hbt, hlt']) | (refine sX ?_; simp only [AU, ↓reduceIte]))
            refine sT ?_
            try simp only [AU]
            refine ⟨by simp, sF hbox htok htk.old htk.le ?_⟩
            simp [packA, ← hN, prs]
      · have hb : x.r.bad < 0 := by omega
        have h1 : ¬ x.r.at' < L.length := by omega
        have h2 : ¬ L.length = 0 := by omega
        rw [if_neg h2, if_neg hb0] at hN
        have h1' : ¬ (x.r.at' : Int) < L.length := by omega
        have h2' : ((L.length : Int) == 0) = false := by rw [beq_eq_false_iff_ne]; omega
        obtain ⟨F, hF⟩ : ∃ F, faultR x.ps [] false = F := ⟨_, rfl⟩
        rw [hF] at hN hfc hrg
        try (simp [lk, hb, h1', h2'])
        repeat (first | (refine sR ?_; simp [lk, hb, h1', h2']) | (refine sC ?_; simp [lk, hb, h1', h2']) | (refine sX ?_; simp only [AU, ↓reduceIte]))
        try (simp [lk, hb0])
        repeat (first | (refine sR ?_; simp [lk, hb0]) | (refine sC ?_; simp [lk, hb0]) | (refine sX ?_; simp only [AU, ↓reduceIte]))
        refine Stop.sub (args' := [prsAv x.ps, .d (rules46 []), B false]) ⟨fun _ _ _ h => h.asD, Sub.nil _ _ _, Sub.refl _, trivial⟩ ?_
        refine Stop.of_d (hfc _ _) ?_
        simp
        by_cases he2 : F.2 = 0
        · have b2 : (F.2 != 0) = false := by simp [he2]
          rw [if_neg (by simp [he2])] at hN
          try (simp [b2, lk])
          repeat (first | (refine sR ?_; simp [b2, lk]) | (refine sC ?_; simp [b2, lk]) | (refine sX ?_; simp only [AU, ↓reduceIte]))
          refine sT ?_
          try simp only [AU]
          refine ⟨by simp, sF hbox htok htk.old htk.le ?_⟩
          simp [packA, ← hN, prs]
        · have b2 : (F.2 != 0) = true := by simp [he2]
          rw [if_pos he2] at hN
          rcases hrg with hi | hi
          · have hi' : ¬ 0 ≤ F.1 := by omega
            rw [if_neg hi'] at hN
            try (simp [b2, hi', lk])
            repeat (first | (refine sR ?_; simp [b2, hi', lk]) | (refine sC ?_; simp [b2, hi', lk]) | (refine sX ?_; simp only [AU, ↓reduceIte]))
            refine sT ?_
            try simp only [AU]
            refine ⟨by simp, sF hbox htok htk.old htk.le ?_⟩
            simp [packA, ← hN, prs]
          · have hlq := hls hb
            have hil : F.1.toNat < ls.length := by rw [hlq]; omega
            have hil' : F.1 < ls.length := by omega
            have hgd : x.ls.getD F.1.toNat 0 = ls[F.1.toNat] := by rw [← hlq]; simp [List.getD_eq_getElem?_getD, hil]
            rw [if_pos hi.1, hgd] at hN
            try (simp [b2, hi.1, lk, hil, hil'])
            repeat (first | (refine sR ?_; simp [b2, hi.1, lk, hil, hil']) | (refine sC ?_; simp [b2, hi.1, lk, hil, hil']) | (refine sX ?_; simp only [AU, ↓reduceIte]))
            refine sT ?_
            try simp only [AU]
            refine ⟨by simp, sF hbox htok htk.old htk.le ?_⟩
            simp [packA, ← hN, prs]
  · rw [if_pos he] at hN
    have be : (K.2.2 != 0) = true := by simp [he]
    simp only [be]
    try (simp)
    repeat (first | (refine sR ?_; simp) | (refine sC ?_; simp) | (refine sX ?_; simp only [AU, ↓reduceIte]))
    refine sT ?_
    try simp only [AU]
    refine ⟨by simp, sF hbox htok (fun _ h => h) (Nat.le_refl _) ?_⟩
    simp [packA, ← hN, prs]
end Go.AM
namespace Go.AM
open Go Go.Proofs
end Go.AM
namespace Go.AM
open Go Go.Proofs
end Go.AM
namespace Go.AM
open Go Go.Proofs
end Go.AM
namespace Go.AM
open Go Go.Proofs
end Go.AM
namespace Go.AM
open Go Go.Proofs
structure AccU where
  a : Nat
  line : Int
  out : List Tk
  own : Own
  tok : Nat → Bool
  nt : Nat
  f : Nat
structure UkInv (s : ByteArray) (R : List Tk × Int × Int) (mtok : Nat → Bool) (nt0 : Nat) (x : AccU) : Prop where
  a : x.a ≤ s.size
  f : s.size - x.a ≤ x.f
  l0 : 0 ≤ x.line
  l1 : x.line ≤ 1 + x.a
  n : x.out.length ≤ 4000
  r : toksF x.f (dropB s x.a) x.line x.out = R
  k : TK mtok nt0 x.tok x.nt [x.own]
theorem UkInv.of {s : ByteArray} {R : List Tk × Int × Int} {mtok : Nat → Bool} {nt0 : Nat} {a : Nat} {line : Int} {out : List Tk} {own : Own} {tok : Nat → Bool} {nt f : Nat} (h1 : a ≤ s.size) (h2 : s.size - a ≤ f) (h3 : 0 ≤ line) (h4 : line ≤ 1 + a) (h5 : out.length ≤ 4000)
    (h6 : toksF f (dropB s a) line out = R) (h7 : TK mtok nt0 tok nt [own]) : UkInv s R mtok nt0 ⟨a, line, out, own, tok, nt, f⟩ := ⟨h1, h2, h3, h4, h5, h6, h7⟩
end Go.AM
namespace Go.AM
open Go Go.Proofs
structure PInv2 (L : List Tk) (R : TS) (mtok : Nat → Bool) (nt0 : Nat) (a : AccP) : Prop where
  ok : TOk L a.x
  f : rem L a.x.r ≤ a.f
  e : topR L a.f a.x = R
  l : a.ls = a.x.ls
  k : TK mtok nt0 a.tok a.nt [a.o1, a.o2]
theorem PInv2.of {L : List Tk} {R : TS} {mtok : Nat → Bool} {nt0 : Nat} {x : TS} {ls : List Int} {o1 o2 : Own} {tok : Nat → Bool} {nt f : Nat} (h1 : TOk L x) (h2 : rem L x.r ≤ f) (h3 : topR L f x = R) (h4 : ls = x.ls) (h6 : TK mtok nt0 tok nt [o1, o2]) :
    PInv2 L R mtok nt0 ⟨x, ls, o1, o2, tok, nt, f⟩ := ⟨h1, h2, h3, h4, h6⟩
end Go.AM
namespace Go.AM
open Go Go.Proofs
theorem aw_uses : usesR exP [nMerge, nPay] nMain = ([nMerge, nPay], 0) := by kernel_rfl
theorem aw_exp : expandR exP nMain = (.mk 2 ⟨#[]⟩ 0 [cApply nPay, exLoop], 0) := by kernel_rfl
theorem aw_fmt : fmtR exP = (fmPs exP, 0) := by kernel_rfl
def awText : ByteArray := ⟨#[112, 114, 111, 99, 101, 100, 117, 114, 101, 32, 116, 105, 100, 121, 32, 123, 32, 108, 111, 111, 112, 32, 123, 32, 97, 112, 112, 108, 121, 32, 109, 101, 114, 103, 101, 32, 59, 32, 125, 32, 125, 32, 112, 114, 111, 99, 101, 100, 117, 114, 101, 32, 109, 97, 105, 110, 32, 123, 32, 97, 112, 112, 108, 121, 32, 112, 97, 121, 32, 59, 32, 99, 97, 108, 108, 32, 116, 105, 100, 121, 32, 59, 32, 125]⟩
def awPre : ByteArray := ⟨#[112, 114, 111, 99, 101, 100, 117, 114, 101, 32, 116, 105, 100, 121, 32, 123, 10, 32, 32, 108, 111, 111, 112, 32, 123, 10, 32, 32, 32, 32, 97, 112, 112, 108, 121, 32, 109, 101, 114, 103, 101, 32, 59, 10]⟩
theorem aw_parse : parseR awText = (exP, 0, 0) := by kernel_rfl
theorem aw_pre : Lib.hasPrefix (fmPs exP).data.toList awPre.data.toList = true := by kernel_rfl
theorem exP_ok : PrsOk exP := by
  refine ⟨by decide, ?_, ?_, ?_⟩
  · intro q hq
    simp only [exP, List.mem_cons, List.not_mem_nil, or_false] at hq
    rcases hq with rfl | rfl <;> decide
  · have h1 : ∀ s : ByteArray, s.size ≤ 200000000000000 → (cApply s).Sm := fun s h => .mk h (by show 0 ≤ _; omega) (fun x hx => by simp [cApply, Cm.kids] at hx)
    have h2 : (Cm.mk 10 nTidy 0 []).Sm := .mk (by decide) (by decide) (fun x hx => by simp [Cm.kids] at hx)
    intro q hq
    simp only [exP, List.mem_cons, List.not_mem_nil, or_false] at hq
    rcases hq with rfl | rfl
    · exact .mk (by decide) (by decide) (fun x hx => by simp [exLoop, Cm.kids] at hx; subst hx; exact h1 _ (by decide))
    · exact .mk (by decide) (by decide) (fun x hx => by
        simp [exMain, Cm.kids] at hx
        rcases hx with rfl | rfl
        · exact h1 _ (by decide)
        · exact h2)
  · intro q hq
    simp only [exP, List.mem_cons, List.not_mem_nil, or_false] at hq
    rcases hq with rfl | rfl <;> decide
theorem exLoop_cells : exLoop.cells = [lInt 5, lStr ⟨#[]⟩, lInt 0, cms [cApply nMerge]] := by rw [Cm.cells_eq]; rfl
set_option maxRecDepth 100000 in
theorem awake_c (tok : Nat → Bool) (nt : Nat) : DCall Tryz.prog 11 [] tok nt (B true) tok nt := by
  intro box nb
  refine sB Tryz.func11 Tryz.ntmps11 ?_
  intro hbox htok
  simp only at hbox htok
  apply AL.start
  try (simp)
  repeat (first | (refine sR ?_; simp) | (refine sC ?_; simp) | (refine sX ?_; simp only [AU, ↓reduceIte]))
  refine Stop.of_d (example_c _ _) ?_
  simp
  refine ⟨rfl, ?_⟩
  refine Stop.data ?_
  refine Stop.of_d (named_c [nMerge, nPay] (by decide) _ _) ?_
  simp
  have hu := uses_c exP [nMerge, nPay] nMain exP_ok (by decide)
  rw [aw_uses] at hu
  refine Stop.of_d (hu _ _) ?_
  simp
  try (simp)
  repeat (first | (refine sR ?_; simp) | (refine sC ?_; simp) | (refine sX ?_; simp only [AU, ↓reduceIte]))
  refine Stop.of_d (example_c _ _) ?_
  simp
  have he := expand_c exP nMain exP_ok
  rw [aw_exp] at he
  refine Stop.of_d (he _ _) ?_
  simp
  try (simp [Cm.kind, Cm.name, Cm.num, Cm.kids])
  repeat (first | (refine sR ?_; simp [Cm.kind, Cm.name, Cm.num, Cm.kids]) | (refine sC ?_; simp [Cm.kind, Cm.name, Cm.num, Cm.kids]) | (refine sX ?_; simp only [AU, ↓reduceIte]))
  refine Stop.of_d (example_c _ _) ?_
  simp
  have hf := format_c exP exP_ok
  rw [aw_fmt] at hf
  refine Stop.of_d (hf _ _) ?_
  simp
  try (simp)
  repeat (first | (refine sR ?_; simp) | (refine sC ?_; simp) | (refine sX ?_; simp only [AU, ↓reduceIte]))
  have hp := parse_c awText (by decide)
  rw [aw_parse] at hp
  refine Stop.of_d (hp _ _) ?_
  simp
  try (simp)
  repeat (first | (refine sR ?_; simp) | (refine sC ?_; simp) | (refine sX ?_; simp only [AU, ↓reduceIte]))
  refine ⟨rfl, ?_⟩
  refine Stop.data ?_
  refine Stop.of_d (equalS_c [nMerge, nPay] [nMerge, nPay] (by decide) (by decide) _ _) ?_
  simp
  try (simp [exLoop_cells])
  repeat (first | (refine sR ?_; simp [exLoop_cells]) | (refine sC ?_; simp [exLoop_cells]) | (refine sX ?_; simp only [AU, ↓reduceIte]))
  have hx := hasPrefix_c (fmPs exP) awPre
  rw [aw_pre] at hx
  refine Stop.of_d (hx _ _) ?_
  simp
  refine Stop.of_d (example_c _ _) ?_
  simp
  have hsm := same_c exP (by decide) exP_ok.bd
  refine Stop.of_d (hsm _ _) ?_
  simp
  try (simp)
  repeat (first | (refine sR ?_; simp) | (refine sC ?_; simp) | (refine sX ?_; simp only [AU, ↓reduceIte]))
  refine sT ?_
  try simp only [AU]
  refine ⟨by simp, sF hbox htok (fun _ h => h) (Nat.le_refl _) ?_⟩
  simp [packA]
end Go.AM
namespace Go.AM
open Go Go.Proofs
theorem fm_sm : ∀ (n : Nat) (c : Cm), c.size < n → c.size ≤ 1000000 → c.Fm → c.Sm
  | 0, c, h, _, _ => absurd h (Nat.not_lt_zero _)
  | n + 1, c, h, hz, hf => .mk (by have := hf.name; omega) (by have := c.kids_len; omega) fun x hx => fm_sm n x (by have := Cm.kid_size hx; omega) (by have := Cm.kid_size hx; omega) (hf.kid x hx)
theorem fault_ok {p : List Pr} {rs : List ByteArray} {asked : Bool} (h : (faultR p rs asked).2 = 0) : PrsOk p := by
  obtain ⟨hv, h20, h1, hpe⟩ := fault_valid h
  have hd := fault_depth hpe
  have hf := valid_fm hpe
  refine ⟨by omega, fun q hq => ?_, fun q hq => fm_sm _ _ (Nat.lt_succ_self _) (by have := (hd q hq).2.1; omega) (hf q hq), fun q hq => by have := (hd q hq).2.1; omega⟩
  have := nameB_size (hd q hq).2.2
  omega
end Go.AM
namespace Go.AM
open Go Go.ChangeShapes
variable {P : Program}
def Rd (w : World) (cs : List Value) (ds : List D) : Prop := cs.length = ds.length ∧ ∀ i (h1 : i < cs.length) (h2 : i < ds.length), RVd w.cell? (fun _ => True) ds[i] cs[i]
theorem Rd.append {w : World} {cs cs' : List Value} {ds ds' : List D} (h : Rd w cs ds) (k : Rd w cs' ds') : Rd w (cs ++ cs') (ds ++ ds') := by
  refine ⟨by simp [h.1, k.1], fun i h1 h2 => ?_⟩
  by_cases hi : i < cs.length
  · rw [List.getElem_append_left hi, List.getElem_append_left (by rw [← h.1]; exact hi)]
    exact h.2 i hi _
  · have hl := h.1
    rw [List.getElem_append_right (by omega), List.getElem_append_right (by omega)]
    have := k.2 (i - cs.length) (by simp at h1; omega) (by have := k.1; simp at h1; omega)
    simpa [hl] using this
theorem Rd.one {w : World} {c : Value} {d : D} (h : RVd w.cell? (fun _ => True) d c) : Rd w [c] [d] := ⟨rfl, fun i h1 h2 => by
  have : i = 0 := by simpa using h1
  subst this
  exact h⟩
def Light {H : Type} (P : Program) (T : TypeId) (d : DataW H) : Prop := (d.weights P T).all (· ≤ reachBytes) = true
structure Rdr (P : Program) (T : TypeId) (α : Type) where
  enc : α → List D
  ok : α → Prop
  len : ∀ x, (enc x).length = P.cellsOf T
  sound : ∀ {H : Type} (e : TypeId × Value → H) (w : World) (base : Nat) (spare : Nat → Bool) (held : Bool) (fuel : Nat) (cs : List Value) (x : DataW H × List MemPlace),
    DataW.trod e P w base spare held fuel T cs = some x → ∃ y, Rd w cs (enc y) ∧ (Light P T x.1 → ok y)
def Rdr.int {T : TypeId} {k : IntKind} (h : P.underlying T = some (.int k)) (hc : P.cellsOf T = 1) : Rdr P T Int where
  enc n := [.raw (.int k n)]
  ok n := (Lit.int k n).wf = true
  len _ := by simp [hc]
  sound e w base spare held fuel cs x hx := by
    cases fuel with
    | zero => simp [DataW.trod] at hx
    | succ n =>
      unfold DataW.trod at hx
      rw [h] at hx
      split at hx <;> simp_all
      rename_i k' n' _
      exact ⟨n', Rd.one (.raw rfl), fun _ => hx.1.2⟩
theorem cells_spec {w : World} {base : Nat} {a : Addr} {n : Nat} {l : List Value} (h : w.cells? base a n = some l) : l.length = n ∧ ∀ i (hi : i < l.length), w.cell? (a.add i) = some l[i] := by
  unfold World.cells? at h
  split at h
  · have h1 : l.length = n := by have := mapM_some_length h; simpa using this
    refine ⟨h1, fun i hi => ?_⟩
    have hin : i < n := by omega
    have := mapM_some_get h i i (by simp [hin])
    rw [this]
    exact List.getElem?_eq_getElem hi
  · cases h
theorem light_slice {H : Type} {T E : TypeId} (h : P.underlying T = some (.slice E)) {elems rest : List (DataW H)} (hl : Light P T (.slice elems rest)) : elems.length * P.bytesOf E ≤ reachBytes ∧ ∀ d ∈ elems, Light P E d := by
  unfold Light at hl ⊢
  simp only [DataW.weights, h, List.all_cons, List.all_append, Bool.and_eq_true, decide_eq_true_eq] at hl
  refine ⟨Nat.le_trans (Nat.mul_le_mul_right _ (Nat.le_add_right _ _)) hl.1, ?_⟩
  have key : ∀ l : List (DataW H), (DataW.weightsAll P E l).all (· ≤ reachBytes) = true → ∀ d ∈ l, (d.weights P E).all (· ≤ reachBytes) = true := by
    intro l
    induction l with
    | nil => intro _ d hd; simp at hd
    | cons x l ih =>
      intro hx d hd
      simp only [DataW.weightsAll, List.all_append, Bool.and_eq_true] at hx
      rcases List.mem_cons.1 hd with rfl | hd
      · exact hx.1
      · exact ih hx.2 d hd
  exact key elems hl.2.1
def Rdr.slice {T E : TypeId} {α : Type} (r : Rdr P E α) (h : P.underlying T = some (.slice E)) (hc : P.cellsOf T = 1) : Rdr P T (List α) where
  enc l := [.sl (P.cellsOf E) (l.map r.enc)]
  ok l := (∀ x ∈ l, r.ok x) ∧ l.length * P.bytesOf E ≤ reachBytes
  len _ := by simp [hc]
  sound e w base spare held fuel cs x hx := by
    rcases DataW.trod_slice h hx with ⟨rfl, rfl⟩ | ⟨a, len, cap, elems, rest, n, rfl, rfl, rfl, hb, hl, hm, hel, hat, _⟩
    · exact ⟨[], Rd.one (.sl (es := []) (fun _ _ => default) (Nat.le_refl _) (by decide) (by simp) (by simp) (by simp) (by simp)), fun _ => ⟨by simp, by simp⟩⟩
    · have key : ∀ i (hi : i < elems.length), ∃ cs y, cs.length = P.cellsOf E ∧ (∀ j (hj : j < cs.length), w.cell? (a.add (i * P.cellsOf E + j)) = some cs[j]) ∧ Rd w cs (r.enc y) ∧ (Light P E elems[i].1 → r.ok y) := by
        intro i hi
        have h1 := hat i (by omega)
        have h2 : elems[i]? = some elems[i] := List.getElem?_eq_getElem hi
        rw [h2, Option.bind_eq_some_iff] at h1
        obtain ⟨cs, hcs, htr⟩ := h1
        obtain ⟨hcl, hcc⟩ := cells_spec hcs
        obtain ⟨y, hy, hok⟩ := r.sound e w base spare held n cs _ htr
        refine ⟨cs, y, hcl, fun j hj => ?_, hy, hok⟩
        rw [← Addr.add_add]
        exact hcc j hj
      have pick : ∀ m, m ≤ elems.length → ∃ ys : List α, ys.length = m ∧ (∀ i (hi : i < ys.length) (hi2 : i < elems.length), ∃ cs, cs.length = P.cellsOf E ∧ (∀ j (hj : j < cs.length), w.cell? (a.add (i * P.cellsOf E + j)) = some cs[j]) ∧ Rd w cs (r.enc ys[i]) ∧ (Light P E elems[i].1 → r.ok ys[i])) := by
        intro m
        induction m with
        | zero => intro _; exact ⟨[], rfl, fun i hi => by simp at hi⟩
        | succ m ih =>
          intro hm'
          obtain ⟨ys, hys, hall⟩ := ih (by omega)
          obtain ⟨cs, y, g1, g2, g3, g4⟩ := key m (by omega)
          refine ⟨ys ++ [y], by simp [hys], fun i hi hi2 => ?_⟩
          by_cases him : i < ys.length
          · rw [List.getElem_append_left him]
            exact hall i him hi2
          · have : i = m := by simp at hi; omega
            subst this
            have e1 : (ys ++ [y])[i] = y := by
              rw [List.getElem_append_right (by omega)]
              simp
            rw [e1]
            exact ⟨cs, g1, g2, g3, g4⟩
      obtain ⟨ys, hys, hall⟩ := pick elems.length (Nat.le_refl _)
      refine ⟨ys, Rd.one ?_, fun hli => ?_⟩
      · have hlen : len = ys.length := by omega
        subst hlen
        have hml : ys.length = (ys.map r.enc).length := by simp
        rw [hml]
        refine .sl (fun i j => (w.cell? (a.add (i * P.cellsOf E + j))).getD default) (by simpa using hl) hm (fun e he => ?_) (fun _ => ⟨a, rfl⟩) (fun a' ha' i j hi hj => ?_) (fun i j hi hj => ?_)
        · obtain ⟨y, _, rfl⟩ := List.mem_map.1 he
          exact r.len y
        · cases ha'
          obtain ⟨cs, g1, g2, _⟩ := hall i (by simpa using hi) (by simp at hi; omega)
          rw [g2 j (by omega)]
          exact ⟨trivial, rfl⟩
        · obtain ⟨cs, g1, g2, g3, _⟩ := hall i (by simpa using hi) (by simp at hi; omega)
          simp only [List.getElem_map] at hj ⊢
          have hjc : j < cs.length := by rw [g3.1]; exact hj
          rw [g2 j hjc]
          exact g3.2 j hjc hj
      · obtain ⟨w1, w2⟩ := light_slice h hli
        refine ⟨fun y hy => ?_, by simpa [hys] using w1⟩
        obtain ⟨i, hi, rfl⟩ := List.getElem_of_mem hy
        obtain ⟨_, _, _, _, h4⟩ := hall i hi (by omega)
        exact h4 (w2 _ (List.mem_map.2 ⟨_, List.getElem_mem _, rfl⟩))
def Rdr.map {T : TypeId} {α β : Type} (r : Rdr P T α) (f : α → β) (enc : β → List D) (ok : β → Prop) (he : ∀ x, enc (f x) = r.enc x) (hok : ∀ x, r.ok x → ok (f x)) (hl : ∀ y, (enc y).length = P.cellsOf T) : Rdr P T β where
  enc := enc
  ok := ok
  len := hl
  sound e w base spare held fuel cs x hx := by
    obtain ⟨y, h1, h2⟩ := r.sound e w base spare held fuel cs x hx
    exact ⟨f y, by rw [he]; exact h1, fun hl => hok y (h2 hl)⟩
def Rdr.sliceN {T E : TypeId} {α : Type} (r : Rdr P E α) (n : Nat) (h : P.underlying T = some (.slice E)) (hc : P.cellsOf T = 1) (hn : P.cellsOf E = n) : Rdr P T (List α) where
  enc l := [.sl n (l.map r.enc)]
  ok l := (∀ x ∈ l, r.ok x) ∧ l.length * P.bytesOf E ≤ reachBytes
  len _ := by simp [hc]
  sound := by
    subst hn
    exact (Rdr.slice r h hc).sound
theorem list2 {α : Type} {l : List α} (h : l.length = 2) : l = [l[0]'(by omega), l[1]'(by omega)] := by
  match l, h with
  | [p, q], _ => rfl
def Rdr.struct2 {T A B : TypeId} {α β : Type} (r : Rdr P A α) (s : Rdr P B β) {f0 f1 : Field} (h : P.underlying T = some (.struct #[f0, f1])) (hA : f0.type = A) (hB : f1.type = B) (h0 : f0.offset = 0) (h1 : f1.offset = P.cellsOf A)
    (hc : P.cellsOf T = P.cellsOf A + P.cellsOf B) : Rdr P T (α × β) where
  enc x := r.enc x.1 ++ s.enc x.2
  ok x := r.ok x.1 ∧ s.ok x.2
  len x := by simp [r.len, s.len, hc]
  sound e w base spare held fuel cs x hx := by
    obtain ⟨xs, n, rfl, rfl, hl, hxs, hat⟩ := DataW.trod_struct h hx
    have hxs' : xs.length = 2 := hxs
    have g0 := hat 0 f0 rfl
    have g1 := hat 1 f1 rfl
    have e0 : xs[0]? = some (xs[0]'(by omega)) := List.getElem?_eq_getElem (by omega)
    have e1 : xs[1]? = some (xs[1]'(by omega)) := List.getElem?_eq_getElem (by omega)
    rw [e0, h0, hA] at g0
    rw [e1, h1, hB] at g1
    obtain ⟨y, k1, k2⟩ := r.sound e w base spare held n _ _ g0
    obtain ⟨z, m1, m2⟩ := s.sound e w base spare held n _ _ g1
    refine ⟨(y, z), ?_, fun hli => ?_⟩
    rotate_left
    · unfold Light at hli k2 m2
      have e2 : xs = [xs[0]'(by omega), xs[1]'(by omega)] := list2 hxs'
      rw [e2] at hli
      simp only [List.map_cons, List.map_nil, DataW.weights, h, DataW.weightsEach, hA, hB, List.all_append, Bool.and_eq_true] at hli
      exact ⟨k2 hli.1, m2 hli.2.1⟩
    have hcs : cs = (cs.drop 0).take (P.cellsOf A) ++ (cs.drop (P.cellsOf A)).take (P.cellsOf B) := by
      have : (cs.drop (P.cellsOf A)).take (P.cellsOf B) = cs.drop (P.cellsOf A) := List.take_of_length_le (by simp; omega)
      rw [this, List.drop_zero, List.take_append_drop]
    rw [hcs]
    exact k1.append m1
def G0 : Gh := ⟨fun _ => none, fun _ => none, fun _ => .whole, 0⟩
def m0 : AMem := ⟨fun _ => none, 0, fun _ => false, 0⟩
theorem G0_ps (a : Addr) : G0.ps a := trivial
theorem relM_start (W : World) : RelM G0 m0 W := by
  constructor
  case box => intro k rows b sz h; cases h
  case nobox => intro k _; rfl
  case inj => intro k k' b sz sz' h; cases h
  case nb => intro k _; rfl
  case nt => rfl
  case toks => intro t h; cases h
  case tokb => intro t g h; cases h
  case tinj => intro t t' g h; cases h
  case tnt => intro t x h; cases h
  case fresh => intro b _; rfl
theorem RVd.start {W : World} {d : D} {v : Value} (h : RVd W.cell? (fun _ => True) d v) : RVd W.cell? G0.ps d v := h.mono fun a u _ hc => ⟨G0_ps a, hc⟩
theorem Rdr.agg {T : TypeId} {α : Type} (r : Rdr P T α) {W : World} {base base' : Nat} {sp : Nat → Bool} {held : Bool} {H : Type} {enc : TypeId × Value → H} {v : Value} {d : DataW H} {p : List MemPlace}
    (hs : aggT P T = some true) (hv : Value.okWide P W .any base T v) (h : DataW.Trod enc P W base' sp held T v d p) (hli : Light P T d) : ∃ y, r.ok y ∧ RV G0 W (.agg ((r.enc y).map .d)) v := by
  have hcs : ∃ cs, v = .agg cs := by
    unfold aggT at hs
    unfold Value.okWide at hv
    cases hu : P.underlying T with
    | none => rw [hu] at hs; simp at hs
    | some u =>
      rw [hu] at hs hv
      cases u <;> simp at hs hv <;> exact ⟨_, hv.choose_spec.1⟩
  obtain ⟨cs, rfl⟩ := hcs
  obtain ⟨fuel, h⟩ := h
  obtain ⟨y, ⟨h1, h2⟩, hok⟩ := r.sound enc W base' sp held fuel _ _ h
  refine ⟨y, hok hli, ?_⟩
  simp only [Value.cells] at h1 h2
  have := RV.agg (G := G0) (w := W) (cs := (r.enc y).map .d) (vs := cs.toList) (by simp [h1]) (fun i g1 g2 => by
    simp only [List.getElem_map]
    exact .d (h2 i g2 (by simpa using g1)).start) (fun v hv => by
    obtain ⟨i, hi, rfl⟩ := List.getElem_of_mem hv
    exact (h2 i hi (by omega)).one)
  simpa using this
theorem Rdr.cell {T : TypeId} {α : Type} (r : Rdr P T α) {W : World} {base base' : Nat} {sp : Nat → Bool} {held : Bool} {H : Type} {enc : TypeId × Value → H} {v : Value} {d : DataW H} {p : List MemPlace} (f : α → D)
    (hs : aggT P T = some false) (hf : ∀ y, r.enc y = [f y]) (hv : Value.okWide P W .any base T v) (h : DataW.Trod enc P W base' sp held T v d p) (hli : Light P T d) : ∃ y, r.ok y ∧ RV G0 W (.d (f y)) v := by
  obtain ⟨fuel, h⟩ := h
  obtain ⟨y, ⟨h1, h2⟩, hok⟩ := r.sound enc W base' sp held fuel _ _ h
  refine ⟨y, hok hli, ?_⟩
  rw [hf] at h1
  have hcs : v.cells.toList = [v] := by
    cases v with
    | agg cs =>
      exfalso
      unfold aggT at hs
      unfold Value.okWide Cell.okWide Cell.ok at hv
      cases hu : P.underlying T with
      | none => rw [hu] at hs; simp at hs
      | some u =>
        rw [hu] at hs hv
        cases u <;> simp_all
    | _ => rfl
  have := h2 0 (by rw [h1]; simp) (by rw [hf]; simp)
  simp only [hf, List.getElem_cons_zero] at this
  have e : v.cells.toList[0]'(by rw [h1]; simp) = v := by simp [hcs]
  rw [e] at this
  exact .d this.start
theorem light_arg {H : Type} {ts : List TypeId} {ds : List (DataW H)} (hz : (DataW.weightsEach P ts ds).all (· ≤ reachBytes) = true) {j : Nat} {T : TypeId} {d : DataW H} (ht : ts[j]? = some T) (hd : ds[j]? = some d) : Light P T d :=
  List.all_eq_true.2 fun x hx => List.all_eq_true.1 hz x (DataW.weights_mem_each ht hd x hx)
theorem arg_agg {ps : Array TypeId} {args : Array Value} {W : World} {base base' : Nat} {sp : Nat → Bool} {held : Bool} {H : Type} {enc : TypeId × Value → H} (hval : ∀ (j : Nat) t v, ps[j]? = some t → args[j]? = some v → Value.okWide P W .any base t v)
    (j : Nat) (T : TypeId) (v : Value) (hp : ps[j]? = some T) (ha : args[j]? = some v) {α : Type} (r : Rdr P T α) {d : DataW H} {p : List MemPlace} (hs : aggT P T = some true) (h : DataW.Trod enc P W base' sp held T v d p) (hli : Light P T d) :
    ∃ y, r.ok y ∧ RV G0 W (.agg ((r.enc y).map .d)) v := r.agg hs (hval j T v hp ha) h hli
theorem arg_cell {ps : Array TypeId} {args : Array Value} {W : World} {base base' : Nat} {sp : Nat → Bool} {held : Bool} {H : Type} {enc : TypeId × Value → H} (hval : ∀ (j : Nat) t v, ps[j]? = some t → args[j]? = some v → Value.okWide P W .any base t v)
    (j : Nat) (T : TypeId) (v : Value) (hp : ps[j]? = some T) (ha : args[j]? = some v) {α : Type} (r : Rdr P T α) (f : α → D) {d : DataW H} {p : List MemPlace} (hs : aggT P T = some false) (hf : ∀ y, r.enc y = [f y]) (h : DataW.Trod enc P W base' sp held T v d p) (hli : Light P T d) :
    ∃ y, r.ok y ∧ RV G0 W (.d (f y)) v := r.cell f hs hf (hval j T v hp ha) h hli
theorem le_old {W W' : World} {G' : Gh} (h : Le G0 W G' W') (b : Nat) (hb : b < W.heap.size) : W'.heap[b]? = W.heap[b]? := (h.whole b hb rfl).2
theorem le_kept {W W' : World} {G' : Gh} (h : Le G0 W G' W') (may : MemPlace → Prop) : W.keptBut W' may := by
  refine ⟨h.os, h.output, fun i hi => ?_⟩
  rw [le_old h i hi]
  split
  · rename_i c t fr c' t' fr' e1 e2
    rw [e1] at e2
    cases e2
    exact ⟨rfl, rfl, rfl, fun _ _ => rfl⟩
  · rename_i e1 e2
    rw [e1] at e2
    cases e2
    exact .inr ⟨rfl, rfl⟩
  · rfl
theorem le_same {W W' : World} {G' : Gh} (h : Le G0 W G' W') {p : MemPlace} (hp : p.block < W.heap.size) : W.sameAt W' p := by
  cases p with
  | cell b off => exact World.cell?_of_block (w := W) (a := ⟨b, off, none⟩) (le_old h b hp)
  | map b => exact le_old h b hp
theorem trodAll_stays {H : Type} {enc : TypeId × Value → H} {W W' : World} {T : TypeId → Prop} {sp' : Nat → Bool} (K : Kids P T) (hsz : ∀ {t e : TypeId}, T t → P.underlying t = some (.slice e) → 0 < P.cellsOf e) :
    ∀ {ts : List TypeId} {vs : List Value} {ds : List (DataW H)} {ps : List MemPlace}, (∀ t ∈ ts, T t) → DataW.TrodAll enc P W 0 (fun _ => true) true ts vs ds ps → (∀ p ∈ ps, W.sameAt W' p) → (∀ p ∈ ps, sp' p.block = true) →
    DataW.TrodAll enc P W' 0 sp' true ts vs ds ps
  | [], [], [], _, _, h, _, _ => h
  | t :: ts, v :: vs, d :: ds, _, hT, ⟨p, q, ⟨n, hn⟩, h2, e⟩, h3, h4 => by
    subst e
    exact ⟨p, q, ⟨n, DataW.trod_stays K hsz (fun h => by cases h) (hT t (by simp)) hn (fun x hx => h3 x (by simp [hx])) (fun x hx => h4 x (by simp [hx]))⟩,
      trodAll_stays K hsz (fun t ht => hT t (by simp [ht])) h2 (fun x hx => h3 x (by simp [hx])) (fun x hx => h4 x (by simp [hx])), rfl⟩
theorem law_of {f : FuncId} {fn : Func} {s : ChangeSpec} {H : Type} {enc : TypeId × Value → H} {W : World} {args : Array Value} {ds : List (DataW H)} {before : List MemPlace} {avs : List AV} {tok' : Nat → Bool} {nt' : Nat}
    (hl : laidOutB P = true) (hm : mapsRowed P = true) (hz : ((List.range P.types.size).all fun t => match P.underlying t with | some (.slice e) => decide (0 < P.cellsOf e) | _ => true) = true)
    (hpar : fn.params.all (· < P.types.size) = true) {tb : TypeId} (hres : fn.resultTypes = #[tb]) (hb : P.underlying tb = some .bool)
    (hvars : s.vars = []) (hfn : s.fn H ds = { results := [.lit (.bool true)], args := ds })
    (hW : DataW.Whole enc P fn.params.toList s.vars false W args.toList ds [] before) (hr : RVs G0 W avs args.toList) (hc : DCall P f avs (fun _ => false) 0 (B true) tok' nt') :
    Calls P f args W fun e W' => ∃ v, e = .returned v ∧ s.post enc P fn false true false false W args v W' := by
  have hcall := (hc (fun _ => none) 0).2 G0 W args.toList (relM_start W) hr
  simp only [Array.toArray_toList] at hcall
  refine hcall.mono ?_
  rintro e W' ⟨v, av, m', G', rfl, ⟨rfl, rfl⟩, _, _, hv, hle, _⟩
  cases hv with
  | d hv =>
    cases hv with
    | raw =>
      refine ⟨_, rfl, ?_⟩
      have hlt := hW.lt
      have hWW := hW
      obtain ⟨p, q, hA, hV, rfl, hfz, hnd⟩ := hW
      rw [hvars] at hV
      obtain ⟨_, rfl⟩ := trodVars_none hV
      simp only [List.append_nil] at hlt hfz hWW ⊢
      have hT : ∀ t ∈ fn.params.toList, t < P.types.size := fun t ht => by
        have := Array.all_eq_true_iff_forall_mem.1 hpar t (by simpa using ht)
        simpa using this
      have hsz : ∀ {t e : TypeId}, t < P.types.size → P.underlying t = some (.slice e) → 0 < P.cellsOf e := by
        intro t e ht hu
        have := List.all_eq_true.1 hz t (List.mem_range.2 ht)
        rw [hu] at this
        simpa using this
      have hargs : ∀ sp : Nat → Bool, (∀ x ∈ p, sp x.block = true) → DataW.TrodAll enc P W' 0 sp true fn.params.toList args.toList ds p := fun sp hsp =>
        trodAll_stays (kids_rows hl hm) hsz hT hA (fun x hx => le_same hle (hlt x hx)) hsp
      have hnat : (Value.bool true).resultList fn.resultTypes.size = [.bool true] := by rw [hres]; rfl
      have hresb : ∀ (b : Nat) (sp : Nat → Bool) (hd : Bool), DataW.TrodAll enc P W' b sp hd fn.resultTypes.toList ((Value.bool true).resultList fn.resultTypes.size) [.lit (.bool true)] [] := fun b sp hd => by
        rw [hnat, hres]
        exact trodAll_mk1 ⟨1, by simp [DataW.trod, hb, Value.cells]⟩
      have hfn' : s.fn H (ds ++ []) = { results := [.lit (.bool true)], args := ds } := by rw [List.append_nil]; exact hfn
      refine ⟨ds, [], p, [], p, [], hWW, ?_, ?_, ?_, World.keptBut_mono (fun _ f => f.elim) (le_kept hle fun _ => False), fun h => by cases h⟩
      · rw [hfn']; exact hresb _ _ _
      · rw [hfn']; exact hargs _ fun x hx => by simpa using hlt x hx
      · rw [hfn', hvars]; exact rfl
end Go.AM
namespace Go.AM
open Go Go.ChangeShapes
structure RdF (P : Program) (T : TypeId) {α : Type} (en : α → List D) (ok : α → Prop) (n : Nat) : Prop where
  sound : ∀ {H : Type} (e : TypeId × Value → H) (w : World) (base : Nat) (spare : Nat → Bool) (held : Bool) (cs : List Value) (x : DataW H × List MemPlace),
    DataW.trod e P w base spare held n T cs = some x → ∃ y, Rd w cs (en y) ∧ (Light P T x.1 → ok y)
theorem Rdr.f {P : Program} {T : TypeId} {α : Type} (r : Rdr P T α) (n : Nat) : RdF P T r.enc r.ok n := ⟨fun e w base spare held cs x hx => r.sound e w base spare held n cs x hx⟩
theorem RdF.zero {P : Program} {T : TypeId} {α : Type} {en : α → List D} {ok : α → Prop} : RdF P T en ok 0 := ⟨fun e w base spare held cs x hx => by simp [DataW.trod] at hx⟩
def Rdr.ofF {P : Program} {T : TypeId} {α : Type} (en : α → List D) (ok : α → Prop) (len : ∀ x, (en x).length = P.cellsOf T) (h : ∀ n, RdF P T en ok n) : Rdr P T α := ⟨en, ok, len, fun e w base spare held n cs x hx => (h n).sound e w base spare held cs x hx⟩
theorem RdF.slice {P : Program} {T E : TypeId} {α : Type} {en : α → List D} {ok : α → Prop} {n : Nat} (r : RdF P E en ok n) (k : Nat) (hk : P.cellsOf E = k) (hlen : ∀ x, (en x).length = k) (h : P.underlying T = some (.slice E)) :
    RdF P T (fun l : List α => [.sl k (l.map en)]) (fun l => (∀ x ∈ l, ok x) ∧ l.length * P.bytesOf E ≤ reachBytes) (n + 1) := by
  subst hk
  constructor
  intro H e w base spare held cs x hx
  rcases DataW.trod_slice h hx with ⟨rfl, rfl⟩ | ⟨a, len, cap, elems, rest, n', hn', rfl, rfl, hb, hl, hm, hel, hat, _⟩
  · exact ⟨[], Rd.one (.sl (es := []) (fun _ _ => default) (Nat.le_refl _) (by decide) (by simp) (by simp) (by simp) (by simp)), fun _ => ⟨by simp, by simp⟩⟩
  · obtain rfl : n' = n := by omega
    have key : ∀ i (hi : i < elems.length), ∃ cs y, cs.length = P.cellsOf E ∧ (∀ j (hj : j < cs.length), w.cell? (a.add (i * P.cellsOf E + j)) = some cs[j]) ∧ Rd w cs (en y) ∧ (Light P E elems[i].1 → ok y) := by
      intro i hi
      have h1 := hat i (by omega)
      have h2 : elems[i]? = some elems[i] := List.getElem?_eq_getElem hi
      rw [h2, Option.bind_eq_some_iff] at h1
      obtain ⟨cs, hcs, htr⟩ := h1
      obtain ⟨hcl, hcc⟩ := cells_spec hcs
      obtain ⟨y, hy, hok⟩ := r.sound e w base spare held cs _ htr
      refine ⟨cs, y, hcl, fun j hj => ?_, hy, hok⟩
      rw [← Addr.add_add]
      exact hcc j hj
    have pick : ∀ m, m ≤ elems.length → ∃ ys : List α, ys.length = m ∧ (∀ i (hi : i < ys.length) (hi2 : i < elems.length), ∃ cs, cs.length = P.cellsOf E ∧ (∀ j (hj : j < cs.length), w.cell? (a.add (i * P.cellsOf E + j)) = some cs[j]) ∧ Rd w cs (en ys[i]) ∧ (Light P E elems[i].1 → ok ys[i])) := by
      intro m
      induction m with
      | zero => intro _; exact ⟨[], rfl, fun i hi => by simp at hi⟩
      | succ m ih =>
        intro hm'
        obtain ⟨ys, hys, hall⟩ := ih (by omega)
        obtain ⟨cs, y, g1, g2, g3, g4⟩ := key m (by omega)
        refine ⟨ys ++ [y], by simp [hys], fun i hi hi2 => ?_⟩
        by_cases him : i < ys.length
        · rw [List.getElem_append_left him]
          exact hall i him hi2
        · have : i = m := by simp at hi; omega
          subst this
          have e1 : (ys ++ [y])[i] = y := by
            rw [List.getElem_append_right (by omega)]
            simp
          rw [e1]
          exact ⟨cs, g1, g2, g3, g4⟩
    obtain ⟨ys, hys, hall⟩ := pick elems.length (Nat.le_refl _)
    refine ⟨ys, Rd.one ?_, fun hli => ?_⟩
    · have hlen' : len = ys.length := by omega
      subst hlen'
      have hml : ys.length = (ys.map en).length := by simp
      rw [hml]
      refine .sl (fun i j => (w.cell? (a.add (i * P.cellsOf E + j))).getD default) (by simpa using hl) hm (fun e he => ?_) (fun _ => ⟨a, rfl⟩) (fun a' ha' i j hi hj => ?_) (fun i j hi hj => ?_)
      · obtain ⟨y, _, rfl⟩ := List.mem_map.1 he
        exact hlen y
      · cases ha'
        obtain ⟨cs, g1, g2, _⟩ := hall i (by simpa using hi) (by simp at hi; omega)
        rw [g2 j (by omega)]
        exact ⟨trivial, rfl⟩
      · obtain ⟨cs, g1, g2, g3, _⟩ := hall i (by simpa using hi) (by simp at hi; omega)
        simp only [List.getElem_map] at hj ⊢
        have hjc : j < cs.length := by rw [g3.1]; exact hj
        rw [g2 j hjc]
        exact g3.2 j hjc hj
    · obtain ⟨w1, w2⟩ := light_slice h hli
      refine ⟨fun y hy => ?_, by simpa [hys] using w1⟩
      obtain ⟨i, hi, rfl⟩ := List.getElem_of_mem hy
      obtain ⟨_, _, _, _, h4⟩ := hall i hi (by omega)
      exact h4 (w2 _ (List.mem_map.2 ⟨_, List.getElem_mem _, rfl⟩))
theorem list4 {α : Type} {l : List α} (h : l.length = 4) : l = [l[0]'(by omega), l[1]'(by omega), l[2]'(by omega), l[3]'(by omega)] := by
  match l, h with
  | [p, q, r, s], _ => rfl
theorem RdF.struct4 {P : Program} {T A B C E : TypeId} {α β γ δ : Type} {ea : α → List D} {eb : β → List D} {ec : γ → List D} {ed : δ → List D} {oa : α → Prop} {ob : β → Prop} {oc : γ → Prop} {od : δ → Prop} {n : Nat}
    (r : RdF P A ea oa n) (s : RdF P B eb ob n) (t : RdF P C ec oc n) (u : RdF P E ed od n) {f0 f1 f2 f3 : Field} (h : P.underlying T = some (.struct #[f0, f1, f2, f3])) (hA : f0.type = A) (hB : f1.type = B) (hC : f2.type = C) (hE : f3.type = E)
    (h0 : f0.offset = 0) (h1 : f1.offset = P.cellsOf A) (h2 : f2.offset = P.cellsOf A + P.cellsOf B) (h3 : f3.offset = P.cellsOf A + P.cellsOf B + P.cellsOf C) (hc : P.cellsOf T = P.cellsOf A + P.cellsOf B + P.cellsOf C + P.cellsOf E) :
    RdF P T (fun x : α × β × γ × δ => ea x.1 ++ (eb x.2.1 ++ (ec x.2.2.1 ++ ed x.2.2.2))) (fun x => oa x.1 ∧ ob x.2.1 ∧ oc x.2.2.1 ∧ od x.2.2.2) (n + 1) := by
  constructor
  intro H e w base spare held cs x hx
  obtain ⟨xs, n', hn', rfl, hl, hxs, hat⟩ := DataW.trod_struct h hx
  obtain rfl : n' = n := by omega
  have hxs' : xs.length = 4 := hxs
  have g0 := hat 0 f0 rfl
  have g1 := hat 1 f1 rfl
  have g2 := hat 2 f2 rfl
  have g3 := hat 3 f3 rfl
  have e0 : xs[0]? = some (xs[0]'(by omega)) := List.getElem?_eq_getElem (by omega)
  have e1 : xs[1]? = some (xs[1]'(by omega)) := List.getElem?_eq_getElem (by omega)
  have e2 : xs[2]? = some (xs[2]'(by omega)) := List.getElem?_eq_getElem (by omega)
  have e3 : xs[3]? = some (xs[3]'(by omega)) := List.getElem?_eq_getElem (by omega)
  rw [e0, h0, hA] at g0
  rw [e1, h1, hB] at g1
  rw [e2, h2, hC] at g2
  rw [e3, h3, hE] at g3
  obtain ⟨y, k1, k2⟩ := r.sound e w base spare held _ _ g0
  obtain ⟨z, m1, m2⟩ := s.sound e w base spare held _ _ g1
  obtain ⟨q, p1, p2⟩ := t.sound e w base spare held _ _ g2
  obtain ⟨v, q1, q2⟩ := u.sound e w base spare held _ _ g3
  refine ⟨(y, z, q, v), ?_, fun hli => ?_⟩
  rotate_left
  · unfold Light at hli k2 m2 p2 q2
    have e2 : xs = [xs[0]'(by omega), xs[1]'(by omega), xs[2]'(by omega), xs[3]'(by omega)] := list4 hxs'
    rw [e2] at hli
    simp only [List.map_cons, List.map_nil, DataW.weights, h, DataW.weightsEach, hA, hB, hC, hE, List.all_append, Bool.and_eq_true] at hli
    exact ⟨k2 hli.1, m2 hli.2.1, p2 hli.2.2.1, q2 hli.2.2.2.1⟩
  have hcs : cs = (cs.drop 0).take (P.cellsOf A) ++ ((cs.drop (P.cellsOf A)).take (P.cellsOf B) ++ ((cs.drop (P.cellsOf A + P.cellsOf B)).take (P.cellsOf C) ++ (cs.drop (P.cellsOf A + P.cellsOf B + P.cellsOf C)).take (P.cellsOf E))) := by
    have : (cs.drop (P.cellsOf A + P.cellsOf B + P.cellsOf C)).take (P.cellsOf E) = cs.drop (P.cellsOf A + P.cellsOf B + P.cellsOf C) := List.take_of_length_le (by simp; omega)
    rw [this]
    have e3 := List.take_append_drop (P.cellsOf C) (cs.drop (P.cellsOf A + P.cellsOf B))
    have e2 := List.take_append_drop (P.cellsOf B) (cs.drop (P.cellsOf A))
    rw [List.drop_drop] at e3 e2
    rw [e3, e2, List.drop_zero, List.take_append_drop]
  rw [hcs]
  exact k1.append (m1.append (p1.append q1))
end Go.AM
namespace Go.AM
open Go Go.Proofs Go.ChangeShapes
theorem own0 : ownKnob Tryz.prog.godebug = none := by kernel_rfl
theorem laidOut0 : laidOutB Tryz.prog = true := by kernel_rfl
theorem mapsRowed0 : mapsRowed Tryz.prog = true := by kernel_rfl
theorem slices0 : ((List.range Tryz.prog.types.size).all fun t => match Tryz.prog.underlying t with | some (.slice e) => decide (0 < Tryz.prog.cellsOf e) | _ => true) = true := by kernel_rfl
def Rdr.str {P : Program} {T : TypeId} (h : P.underlying T = some .string) (hc : P.cellsOf T = 1) : Rdr P T ByteArray where
  enc n := [.raw (.string n)]
  ok n := n.size ≤ reachBytes
  len _ := by simp [hc]
  sound e w base spare held fuel cs x hx := by
    cases fuel with
    | zero => simp [DataW.trod] at hx
    | succ n =>
      unfold DataW.trod at hx
      rw [h] at hx
      split at hx <;> simp_all
      refine ⟨_, Rd.one (.raw rfl), fun hli => ?_⟩
      obtain ⟨_, rfl⟩ := hx
      have := hli
      simp [Light, DataW.weights] at this
      exact this
def rdInt : Rdr Tryz.prog 3 Int := Rdr.int (k := .i64) Tryz.underlying3 (by kernel_rfl)
def rdU8 : Rdr Tryz.prog 5 Int := Rdr.int (k := .u8) Tryz.underlying5 (by kernel_rfl)
def rdU8s : Rdr Tryz.prog 60 (List Int) := rdU8.sliceN 1 Tryz.underlying60 (by kernel_rfl) (by kernel_rfl)
def rdU8ss : Rdr Tryz.prog 49 (List (List Int)) := rdU8s.sliceN 1 Tryz.underlying49 (by kernel_rfl) (by kernel_rfl)
def rdStr : Rdr Tryz.prog 9 ByteArray := Rdr.str Tryz.underlying9 (by kernel_rfl)
theorem by_cmd : Tryz.prog.bytesOf 44 = 56 := by kernel_rfl
theorem by_proc : Tryz.prog.bytesOf 53 = 72 := by kernel_rfl
theorem rch : reachBytes = 140737488351232 := rfl
theorem rdCm_n : ∀ n, RdF Tryz.prog 44 Cm.cells Cm.Sm n
  | 0 => .zero
  | 1 => by
    constructor
    intro H e w base spare held cs x hx
    obtain ⟨xs, n', hn', rfl, hl, hxs, hat⟩ := DataW.trod_struct Tryz.underlying44 hx
    obtain rfl : n' = 0 := by omega
    have g0 := hat 0 _ rfl
    simp [DataW.trod] at g0
    subst g0
    simp at hxs
  | n + 2 => by
    have ih := rdCm_n n
    have hk := ih.slice 4 (by kernel_rfl) (fun c => by rw [c.cells_eq]; rfl) (T := 42) Tryz.underlying42
    have hs := RdF.struct4 (rdInt.f (n + 1)) (rdStr.f (n + 1)) (rdInt.f (n + 1)) hk Tryz.underlying44 rfl rfl rfl rfl rfl (by kernel_rfl) (by kernel_rfl) (by kernel_rfl) (by kernel_rfl)
    constructor
    intro H e w base spare held cs x hx
    obtain ⟨y, h1, h2⟩ := hs.sound e w base spare held cs x hx
    refine ⟨.mk y.1 y.2.1 y.2.2.1 y.2.2.2, ?_, fun hli => ?_⟩
    · rw [Cm.cells_eq]
      exact h1
    · obtain ⟨_, s1, _, k1, k2⟩ := h2 hli
      have s2 : y.2.1.size ≤ reachBytes := s1
      rw [by_cmd, rch] at k2
      rw [rch] at s2
      exact .mk (by simp only [Cm.name]; omega) (by simp only [Cm.kids]; omega) k1
theorem rdCm_len (c : Cm) : c.cells.length = Tryz.prog.cellsOf 44 := by rw [c.cells_eq]; kernel_rfl
def rdCm : Rdr Tryz.prog 44 Cm := Rdr.ofF Cm.cells Cm.Sm rdCm_len rdCm_n
def rdPr0 : Rdr Tryz.prog 53 (ByteArray × Cm) := Rdr.struct2 rdStr rdCm Tryz.underlying53 rfl rfl rfl (by kernel_rfl) (by kernel_rfl)
def Pr.Big (q : Pr) : Prop := q.name.size ≤ 200000000000000 ∧ q.body.Sm
def rdPr : Rdr Tryz.prog 53 Pr := rdPr0.map (fun x => ⟨x.1, x.2⟩) Pr.cells Pr.Big (fun x => by show _ = (D.raw (.string x.1)) :: x.2.cells; rw [x.2.cells_eq]) (fun x h => ⟨by have h1 : x.1.size ≤ reachBytes := h.1; rw [rch] at h1; show x.1.size ≤ _; omega, h.2⟩) (fun _ => by kernel_rfl)
def rdPrs : Rdr Tryz.prog 22 (List Pr) := rdPr.sliceN 5 Tryz.underlying22 (by kernel_rfl) (by kernel_rfl)
theorem list1 {α : Type} {l : List α} (h : l.length = 1) : l = [l[0]'(by omega)] := by
  match l, h with
  | [p], _ => rfl
def Rdr.struct1 {P : Program} {T A : TypeId} {α : Type} (r : Rdr P A α) {f0 : Field} (h : P.underlying T = some (.struct #[f0])) (hA : f0.type = A) (h0 : f0.offset = 0)
    (hc : P.cellsOf T = P.cellsOf A) : Rdr P T α where
  enc x := r.enc x
  ok x := r.ok x
  len x := by simp [r.len, hc]
  sound e w base spare held fuel cs x hx := by
    obtain ⟨xs, n, rfl, rfl, hl, hxs, hat⟩ := DataW.trod_struct h hx
    have hxs' : xs.length = 1 := hxs
    have g0 := hat 0 f0 rfl
    have e0 : xs[0]? = some (xs[0]'(by omega)) := List.getElem?_eq_getElem (by omega)
    rw [e0, h0, hA] at g0
    obtain ⟨y, k1, k2⟩ := r.sound e w base spare held n _ _ g0
    refine ⟨y, ?_, fun hli => ?_⟩
    rotate_left
    · unfold Light at hli k2
      have e2 : xs = [xs[0]'(by omega)] := list1 hxs'
      rw [e2] at hli
      simp only [List.map_cons, List.map_nil, DataW.weights, h, DataW.weightsEach, hA, List.all_append, Bool.and_eq_true] at hli
      exact k2 hli.1
    have hcs : cs = (cs.drop 0).take (P.cellsOf A) := by
      rw [List.drop_zero, List.take_of_length_le (by omega)]
    rw [hcs]
    exact k1
def rdCtl : Rdr Tryz.prog 24 (List Pr) := Rdr.struct1 rdPrs Tryz.underlying24 rfl rfl (by kernel_rfl)
structure PrsBig (p : List Pr) : Prop where
  len : p.length ≤ 200000000000000
  big : ∀ q ∈ p, q.Big
set_option maxRecDepth 100000 in
theorem arg_prog {ps : Array TypeId} {args : Array Value} {W : World} {base base' : Nat} {sp : Nat → Bool} {held : Bool} {H : Type} {enc : TypeId × Value → H} (hval : ∀ (j : Nat) t v, ps[j]? = some t → args[j]? = some v → Value.okWide Tryz.prog W .any base t v)
    (j : Nat) (v : Value) (hp : ps[j]? = some 24) (ha : args[j]? = some v) {d : DataW H} {p : List MemPlace} (h : DataW.Trod enc Tryz.prog W base' sp held 24 v d p) (hli : Light Tryz.prog 24 d) : ∃ l : List Pr, PrsBig l ∧ RV G0 W (prsAv l) v := by
  refine Exists.elim (arg_agg hval j 24 v hp ha rdCtl aggT_24 h hli) fun l hl => ⟨l, ?_, hl.2⟩
  have h1 : (∀ x ∈ l, x.Big) ∧ l.length * Tryz.prog.bytesOf 53 ≤ reachBytes := hl.1
  rw [by_proc, rch] at h1
  exact ⟨by omega, h1.1⟩
end Go.AM
namespace Go.AM
open Go Go.Proofs
theorem expand_sm {p : List Pr} (s : ByteArray) (hp : PrsOk p) : (expandR p s).1.Sm := by
  unfold expandR
  split
  · exact zC_sm
  · split
    · exact zC_sm
    · split
      · exact zC_sm
      · rename_i h1 h2 _
        have hv := (fault_valid (Decidable.not_not.1 h1)).1
        have hrg := placeR_lt p s
        have hk := knR_ok hp hv ((placeR p s).toNat + 1) (by omega)
        exact hk.2.m _ (hk.2.get (by rw [hk.1]; omega))
end Go.AM
namespace Go.AM
open Go Go.Proofs Go.Shelf
abbrev Wk := Int × ByteArray
abbrev Tk.kt (t : Tk) : Wk := (t.kind, t.text)
def whL (s : List UInt8) : Prop := ∀ b r, s = b :: r → b = 32 ∨ b = 10 ∨ b = 9
theorem whL_sp (s : List UInt8) : whL (32 :: s) := fun b r h => by cases h; exact .inl rfl
theorem whL_nl (s : List UInt8) : whL (10 :: s) := fun b r h => by cases h; exact .inr (.inl rfl)
def digW (w : ByteArray) : Bool := decide (w.size = 1) && digB (byteAt w 0)
def wdB (w : Wk) : Bool := (decide (w.1 = 1) && nameB w.2) || (decide (w.1 = 2) && digW w.2) || (decide (w.1 = 4) && (decide (w.2 = sOp) || decide (w.2 = sCl) || decide (w.2 = sSem)))
theorem take_stop {q : UInt8 → Bool} {s : List UInt8} (h : ∀ b r, s = b :: r → q b = false) : s.takeWhile q = [] := by
  cases s with
  | nil => rfl
  | cons b r => rw [List.takeWhile_cons, if_neg (by rw [h b r rfl]; simp)]
theorem run_word {p : Int → Bool} {t w : ByteArray} {s : List UInt8} (ht : t.data.toList = w.data.toList ++ s) (hw : runN p w 0 = w.size) (hp : p 32 = false ∧ p 10 = false ∧ p 9 = false) (hs : whL s) : runN p t 0 = w.size := by
  unfold runN at hw ⊢
  rw [List.drop_zero] at hw ⊢
  have hall : w.data.toList.takeWhile (fun b => p (b.toNat : Int)) = w.data.toList := by
    have := (List.takeWhile_prefix (l := w.data.toList) (fun b => p (b.toNat : Int))).eq_of_length (by rw [hw, sz_list])
    exact this
  have hst : s.takeWhile (fun b => p (b.toNat : Int)) = [] := take_stop fun b r h => by
    rcases hs b r h with rfl | rfl | rfl
    · exact hp.1
    · exact hp.2.1
    · exact hp.2.2
  rw [ht, List.takeWhile_append, hall, if_pos rfl, hst, List.append_nil, sz_list]
theorem byte_word {t w : ByteArray} {s : List UInt8} (ht : t.data.toList = w.data.toList ++ s) {i : Nat} (h : i < w.size) : byteAt t i = byteAt w i := by
  have hl : i < w.data.toList.length := by rw [sz_list]; exact h
  simp only [byteAt, ht, List.getD_eq_getElem?_getD, List.getElem?_append_left hl]
theorem cut_word {t w : ByteArray} {s : List UInt8} (ht : t.data.toList = w.data.toList ++ s) : t.extract 0 w.size = w := ba_ext (by
  rw [ba_cut, ht, List.drop_zero, Nat.sub_zero]
  have : w.size = w.data.toList.length := (sz_list w).symm
  rw [this, List.take_left])
theorem sz_word {t w : ByteArray} {s : List UInt8} (ht : t.data.toList = w.data.toList ++ s) : t.size = w.size + s.length := by
  rw [← sz_list, ht, List.length_append, sz_list]
structure Word (t : ByteArray) (w : Wk) : Prop where
  pos : 1 ≤ w.2.size
  c : ¬ byteAt t 0 = 10 ∧ ¬ whiB (byteAt t 0) = true ∧ ¬ byteAt t 0 = 35
  next : nextR t = (w.1, (w.2.size : Int), 0)
  text : textR t = w.2
theorem let_not {c : Int} (h : letB c = true) : ¬ c = 10 ∧ ¬ whiB c = true ∧ ¬ c = 35 := by
  simp only [letB, decide_eq_true_eq] at h
  simp only [whiB, decide_eq_true_eq]
  omega
theorem dig_not {c : Int} (h : digB c = true) : (¬ c = 10 ∧ ¬ whiB c = true ∧ ¬ c = 35) ∧ letB c = false := by
  simp only [digB, decide_eq_true_eq] at h
  simp only [whiB, letB, decide_eq_true_eq, decide_eq_false_iff_not]
  omega
theorem text_word {t : ByteArray} {w : Wk} {s : List UInt8} (ht : t.data.toList = w.2.data.toList ++ s) (hn : nextR t = (w.1, (w.2.size : Int), 0)) (h3 : w.1 ≠ 3) : textR t = w.2 := by
  unfold textR
  rw [hn]
  simp only
  rw [if_neg h3, Int.toNat_natCast]
  exact cut_word ht
theorem sign_word {t : ByteArray} {b : UInt8} {s : List UInt8} (ht : t.data.toList = (⟨#[b]⟩ : ByteArray).data.toList ++ s) (hb : b = 123 ∨ b = 125 ∨ b = 59) : Word t (4, ⟨#[b]⟩) := by
  have ht' : t.data.toList = b :: s := ht
  have h0 : byteAt t 0 = (b.toNat : Int) := by simp [byteAt, ht']
  have hp : pairB t = false := by
    unfold pairB
    by_cases h2 : 2 ≤ t.size
    · have hm : t.extract 0 2 ∉ pairL := fun hm => by
        have h1 : (t.extract 0 2).data.toList.getD 0 0 = b := by rw [ba_cut, ht']; rfl
        simp only [pairL, List.mem_cons, List.not_mem_nil, or_false] at hm
        rcases hm with e | e | e | e | e <;> rw [e] at h1 <;> rcases hb with rfl | rfl | rfl <;> exact absurd h1 (by decide)
      have : memS pairL (t.extract 0 2) = false := by
        cases hx : memS pairL (t.extract 0 2) with
        | false => rfl
        | true => exact absurd (memS_iff.1 hx) hm
      rw [this, Bool.and_false]
    · rw [decide_eq_false h2, Bool.false_and]
  have hn : nextR t = (4, 1, 0) := by
    unfold nextR
    rw [h0, hp]
    rcases hb with rfl | rfl | rfl
    · rfl
    · rfl
    · rfl
  refine ⟨Nat.le_refl _, ?_, hn, ?_⟩
  · rw [h0]
    rcases hb with rfl | rfl | rfl <;> decide
  · exact text_word (w := (4, ⟨#[b]⟩)) ht hn (by show (4 : Int) ≠ 3; decide)
theorem word_of {w : Wk} (hw : wdB w = true) {t : ByteArray} {s : List UInt8} (hs : whL s) (ht : t.data.toList = w.2.data.toList ++ s) : Word t w := by
  obtain ⟨k, w⟩ := w
  have ht : t.data.toList = w.data.toList ++ s := ht
  simp only [wdB, Bool.or_eq_true, Bool.and_eq_true, decide_eq_true_eq] at hw
  rcases hw with ⟨⟨rfl, hn⟩ | ⟨rfl, hd⟩⟩ | ⟨rfl, hg⟩
  · simp only [nameB, Bool.and_eq_true, decide_eq_true_eq] at hn
    obtain ⟨⟨⟨h1, h20⟩, hl⟩, hr⟩ := hn
    have hb := byte_word ht (show 0 < w.size by omega)
    have hru : runN parB t 0 = w.size := run_word ht hr ⟨by decide, by decide, by decide⟩ hs
    have hx : nextR t = (1, (w.size : Int), 0) := by
      unfold nextR
      rw [hb, if_pos hl, hru, if_neg (by omega)]
    exact ⟨h1, by rw [hb]; exact let_not hl, hx, text_word (w := (1, w)) ht hx (by show (1 : Int) ≠ 3; decide)⟩
  · simp only [digW, Bool.and_eq_true, decide_eq_true_eq] at hd
    obtain ⟨h1, hl⟩ := hd
    have hb := byte_word ht (show 0 < w.size by omega)
    have hr : runN digB w 0 = w.size := by rw [runN_step (by omega) hl, runN_end (by omega), h1]
    have hru : runN digB t 0 = w.size := run_word ht hr ⟨by decide, by decide, by decide⟩ hs
    obtain ⟨d1, d2⟩ := dig_not hl
    have hx : nextR t = (2, (w.size : Int), 0) := by
      unfold nextR
      rw [hb, if_neg (by rw [d2]; simp), if_pos hl, hru, if_neg (by omega)]
    exact ⟨by show 1 ≤ w.size; omega, by rw [hb]; exact d1, hx, text_word (w := (2, w)) ht hx (by show (2 : Int) ≠ 3; decide)⟩
  · rcases hg with (rfl | rfl) | rfl
    · exact sign_word ht (.inl rfl)
    · exact sign_word ht (.inr (.inl rfl))
    · exact sign_word ht (.inr (.inr rfl))
inductive Lay : List UInt8 → List Wk → Prop
  | nil : Lay [] []
  | nl {s ws} : Lay s ws → Lay (10 :: s) ws
  | wh {s ws} {b : UInt8} : b = 32 ∨ b = 9 → Lay s ws → Lay (b :: s) ws
  | cm {s ws} (c : List UInt8) : (∀ x ∈ c, x ≠ 10) → Lay s ws → Lay (35 :: (c ++ 10 :: s)) ws
  | wd {s ws} (w : Wk) : wdB w = true → whL s → Lay s ws → Lay (w.2.data.toList ++ s) (w :: ws)
theorem byte_cons {s : ByteArray} {b : UInt8} {r : List UInt8} (h : s.data.toList = b :: r) : byteAt s 0 = (b.toNat : Int) ∧ ¬ s.size = 0 ∧ s.size = r.length + 1 ∧ (dropB s 1).data.toList = r := by
  have hz : s.size = r.length + 1 := by rw [← sz_list, h, List.length_cons]
  refine ⟨by simp [byteAt, h], by omega, hz, ?_⟩
  rw [dropB_list, h]
  rfl
theorem u8_ten {x : UInt8} (h : x ≠ 10) : nlB (x.toNat : Int) = true := by
  have : x.toNat ≠ 10 := fun e => h (UInt8.toNat_inj.1 e)
  simp only [nlB, bne_iff_ne, ne_eq]
  omega
theorem run_cm {s : ByteArray} {c r : List UInt8} (h : s.data.toList = 35 :: (c ++ 10 :: r)) (hc : ∀ x ∈ c, x ≠ 10) : runN nlB s 0 = c.length + 1 := by
  unfold runN
  rw [List.drop_zero, h]
  have h2 : (c ++ 10 :: r).takeWhile (fun b => nlB (b.toNat : Int)) = c := by
    rw [List.takeWhile_append_of_pos (fun x hx => u8_ten (hc x hx)), List.takeWhile_cons, if_neg (by decide), List.append_nil]
  rw [List.takeWhile_cons, if_pos (by decide), h2, List.length_cons]
theorem Lay.toks {l : List UInt8} {ws : List Wk} (h : Lay l ws) : ∀ (f : Nat) (s : ByteArray) (line : Int) (out : List Tk), s.data.toList = l → s.size ≤ f → out.length + ws.length ≤ 4000 →
    ∃ T : List Tk, toksF f s line out = (out ++ T, 0, 0) ∧ T.map Tk.kt = ws := by
  induction h with
  | nil =>
    intro f s line out hl hf ho
    have hz : s.size = 0 := by rw [← sz_list, hl]; rfl
    exact ⟨[], by rw [toksF_end hz, List.append_nil], rfl⟩
  | @nl s0 ws0 h ih =>
    intro f s line out hl hf ho
    obtain ⟨b0, b1, b2, b3⟩ := byte_cons hl
    obtain ⟨f, rfl⟩ : ∃ g, f = g + 1 := ⟨f - 1, by omega⟩
    rw [toksF_nl b1 (by rw [b0]; rfl)]
    exact ih f _ _ _ b3 (by rw [dropB_size]; omega) ho
  | @wh s0 ws0 b hb h ih =>
    intro f s line out hl hf ho
    obtain ⟨b0, b1, b2, b3⟩ := byte_cons hl
    obtain ⟨f, rfl⟩ : ∃ g, f = g + 1 := ⟨f - 1, by omega⟩
    rw [toksF_wh b1 (by rw [b0]; rcases hb with rfl | rfl <;> decide) (by rw [b0]; rcases hb with rfl | rfl <;> decide)]
    exact ih f _ _ _ b3 (by rw [dropB_size]; omega) ho
  | @cm s0 ws0 c hc h ih =>
    intro f s line out hl hf ho
    obtain ⟨b0, b1, b2, b3⟩ := byte_cons hl
    obtain ⟨f, rfl⟩ : ∃ g, f = g + 1 := ⟨f - 1, by omega⟩
    rw [toksF_cm b1 (by rw [b0]; rfl), run_cm hl hc]
    have hd : (dropB s (c.length + 1)).data.toList = 10 :: s0 := by
      rw [dropB_list, hl, List.drop_succ_cons, List.drop_left]
    obtain ⟨d0, d1, d2, d3⟩ := byte_cons hd
    have hz := dropB_size s (c.length + 1)
    obtain ⟨f, rfl⟩ : ∃ g, f = g + 1 := ⟨f - 1, by omega⟩
    rw [toksF_nl d1 (by rw [d0]; rfl)]
    exact ih f _ _ _ d3 (by rw [dropB_size]; omega) ho
  | @wd s0 ws0 w hw hs h ih =>
    intro f s line out hl hf ho
    obtain ⟨h1, ⟨c1, c2, c3⟩, hn, ht⟩ := word_of hw hs hl
    have hz := sz_word hl
    obtain ⟨f, rfl⟩ : ∃ g, f = g + 1 := ⟨f - 1, by omega⟩
    rw [List.length_cons] at ho
    rw [toksF_tk (by omega) c1 c2 c3, hn, ht]
    simp only
    rw [if_neg (by simp), if_neg (by omega), Int.toNat_natCast]
    obtain ⟨T, e1, e2⟩ := ih f (dropB s w.2.size) line (out ++ [⟨w.1, w.2, line⟩]) (by rw [dropB_list, hl, ← sz_list w.2, List.drop_left]) (by rw [dropB_size]; omega) (by rw [List.length_append, List.length_singleton]; omega)
    refine ⟨⟨w.1, w.2, line⟩ :: T, by rw [e1, List.append_assoc, List.singleton_append], ?_⟩
    rw [List.map_cons, e2]
theorem Lay.toksR {s : ByteArray} {ws : List Wk} (h : Lay s.data.toList ws) (hs : s.size ≤ 20000) (hl : ws.length ≤ 4000) : ∃ T : List Tk, toksR s = (T, 0, 0) ∧ T.map Tk.kt = ws := by
  obtain ⟨T, e1, e2⟩ := h.toks s.size s 1 [] rfl (Nat.le_refl _) (by simpa using hl)
  exact ⟨T, by rw [AM.toksR, if_neg (by omega), e1, List.nil_append], e2⟩
def PutL (x : ByteArray) (a : List Wk) : Prop := ∀ s ws, Lay s ws → Lay (x.data.toList ++ s) (a ++ ws)
def PutW (x : ByteArray) (a : List Wk) : Prop := ∀ s ws, whL s → Lay s ws → Lay (x.data.toList ++ s) (a ++ ws)
theorem ba_app_list (a b : ByteArray) : (a ++ b).data.toList = a.data.toList ++ b.data.toList := by
  rw [ByteArray.data_append, Array.toList_append]
theorem PutL.app {x y : ByteArray} {a b : List Wk} (h : PutL x a) (k : PutL y b) : PutL (x ++ y) (a ++ b) := fun s ws hs => by
  rw [ba_app_list, List.append_assoc, List.append_assoc]
  exact h _ _ (k _ _ hs)
theorem PutL.nil : PutL ⟨#[]⟩ [] := fun s ws hs => hs
theorem PutL.all {x : ByteArray} {a : List Wk} (h : PutL x a) : Lay x.data.toList a := by
  have := h [] [] .nil
  rwa [List.append_nil, List.append_nil] at this
theorem putL_pad : ∀ n, PutL (padR n) []
  | 0 => PutL.nil
  | n + 1 => by
    have h : PutL ⟨#[32, 32]⟩ [] := fun s ws hs => .wh (.inl rfl) (.wh (.inl rfl) hs)
    exact (putL_pad n).app h
theorem putW_word {w : Wk} (h : wdB w = true) : PutW w.2 [w] := fun s ws hw hs => .wd w h hw hs
theorem PutW.sp {x y : ByteArray} {a b : List Wk} (h : PutW x a) (k : PutW y b) : PutW (x ++ (⟨#[32]⟩ ++ y)) (a ++ b) := fun s ws hw hs => by
  rw [ba_app_list, ba_app_list, List.append_assoc, List.append_assoc, List.append_assoc]
  exact h _ _ (whL_sp _) (.wh (.inl rfl) (k _ _ hw hs))
theorem putL_line {t : ByteArray} {a : List Wk} (h : PutW t a) (n : Nat) : PutL (lineR n t) a := fun s ws hs => by
  have h1 : PutL (t ++ ⟨#[10]⟩) a := fun s ws hs => by
    rw [ba_app_list, List.append_assoc]
    exact h _ _ (whL_nl _) (.nl hs)
  exact ((putL_pad n).app h1) s ws hs
end Go.AM
namespace Go.AM
open Go Go.Proofs Go.Shelf
def wOp : Wk := (4, sOp)
def wCl : Wk := (4, sCl)
def wSem : Wk := (4, sSem)
def hdW (k n : Int) : List (List Wk) :=
  if k = 3 then [[(1, sCho)], [wCl, (1, sOr)]] else if k = 4 then [[(1, sIf)], [wCl, (1, sThe)], [wCl, (1, sEls)]] else if k = 5 then [[(1, sLoo)]] else if k = 6 then [[(1, sRep), (2, digR n)]] else [[(1, sTry)]]
def hdAt (hs : List (List Wk)) (i : Nat) : List Wk := hs.getD (min i (hs.length - 1)) []
mutual
def wsC (bl : Bool) : Cm → List Wk
  | .mk k s n c => if (bl && k == 2) = true then wsS c else if k = 1 then [(1, sApp), (1, s), wSem] else if k = 10 then [(1, sCal), (1, s), wSem]
    else if k = 8 then [(1, sSki), wSem] else if k = 9 then [(1, sFai), wSem] else wsK (hdW k n) 0 c ++ [wCl]
def wsS : List Cm → List Wk
  | [] => []
  | x :: r => wsC false x ++ wsS r
def wsK (hs : List (List Wk)) : Nat → List Cm → List Wk
  | _, [] => []
  | i, x :: r => (hdAt hs i ++ [wOp]) ++ wsC true x ++ wsK hs (i + 1) r
end
theorem wsC_eq (bl : Bool) (c : Cm) : wsC bl c = if (bl && c.kind == 2) = true then wsS c.kids else if c.kind = 1 then [(1, sApp), (1, c.name), wSem] else if c.kind = 10 then [(1, sCal), (1, c.name), wSem]
    else if c.kind = 8 then [(1, sSki), wSem] else if c.kind = 9 then [(1, sFai), wSem] else wsK (hdW c.kind c.num) 0 c.kids ++ [wCl] := by
  cases c
  rw [wsC]
  rfl
inductive Cm.Fn : Cm → Prop
  | mk {c : Cm} (ho : okB c = true) (hn : c.kind = 1 ∨ c.kind = 10 → nameB c.name = true) (hr : c.kind = 6 → 1 ≤ c.num ∧ c.num ≤ 9) (h : ∀ x ∈ c.kids, Cm.Fn x) : Cm.Fn c
theorem Cm.Fn.ok {c : Cm} (h : c.Fn) : okB c = true := by cases h; assumption
theorem Cm.Fn.nm {c : Cm} (h : c.Fn) : c.kind = 1 ∨ c.kind = 10 → nameB c.name = true := by cases h; assumption
theorem Cm.Fn.num {c : Cm} (h : c.Fn) : c.kind = 6 → 1 ≤ c.num ∧ c.num ≤ 9 := by cases h; assumption
theorem Cm.Fn.kid {c : Cm} (h : c.Fn) : ∀ x ∈ c.kids, Cm.Fn x := by cases h; assumption
theorem own_fn {p : List Pr} {rs : List ByteArray} {asked : Bool} {at' : Nat} {c : Cm} (h : ownE p rs asked at' c = 0) : okB c = true ∧ (c.kind = 1 ∨ c.kind = 10 → nameB c.name = true) ∧ (c.kind = 6 → 1 ≤ c.num ∧ c.num ≤ 9) := by
  have h2 := own_fm h
  refine ⟨h2.1, fun hk => ?_, h2.2.2⟩
  unfold ownE at h
  rw [h2.1, if_neg (by simp)] at h
  cases hx : nameB c.name with
  | true => rfl
  | false =>
    rw [hx] at h
    rcases hk with e | e
    · rw [if_pos e, if_pos rfl] at h; cases h
    · rw [if_neg (by omega), if_pos e, if_pos rfl] at h; cases h
theorem cmd_fn {p : List Pr} {rs : List ByteArray} {asked : Bool} {at' : Nat} : ∀ (n : Nat) (c : Cm), c.size < n → cmdE p rs asked at' c = 0 → c.Fn
  | 0, c, h, _ => absurd h (Nat.not_lt_zero _)
  | n + 1, c, h, he => by
    rw [cmdE_eq] at he
    split at he
    · rename_i h1; exact absurd he h1
    · rename_i h1
      obtain ⟨a, b, d⟩ := own_fn (Decidable.not_not.1 h1)
      exact .mk a b d fun x hx => cmd_fn n x (by have := Cm.kid_size hx; omega) (cmdEL_mem he x hx)
theorem okB_kind {c : Cm} (h : okB c = true) : 1 ≤ c.kind ∧ c.kind ≤ 10 := by
  unfold okB at h
  simp only [Bool.and_eq_true] at h
  have h1 := h.1.1
  clear h
  repeat' split at h1
  all_goals first | omega | simp at h1
theorem okB_len2 {c : Cm} (h : okB c = true) (hk : c.kind = 2) : 2 ≤ c.kids.length ∧ ∀ x ∈ c.kids, x.kind ≠ 2 := by
  unfold okB at h
  simp only [Bool.and_eq_true] at h
  have h1 := h.1.1
  rw [if_pos hk] at h1
  simpa using h1
theorem okB_lens {c : Cm} (h : okB c = true) : (c.kind = 3 → 2 ≤ c.kids.length) ∧ (c.kind = 4 → c.kids.length = 3) ∧ (c.kind = 5 ∨ c.kind = 6 ∨ c.kind = 7 → c.kids.length = 1) ∧ (c.kind = 1 ∨ c.kind = 8 ∨ c.kind = 9 ∨ c.kind = 10 → c.kids.length = 0) := by
  unfold okB at h
  simp only [Bool.and_eq_true] at h
  have h1 := h.1.1
  refine ⟨fun hk => ?_, fun hk => ?_, fun hk => ?_, fun hk => ?_⟩
  · rw [if_neg (by omega), if_pos hk] at h1; simpa using h1
  · rw [if_neg (by omega), if_neg (by omega), if_pos hk] at h1; simpa using h1
  · rw [if_neg (by omega), if_neg (by omega), if_neg (by omega), if_pos hk] at h1; simpa using h1
  · rw [if_neg (by omega), if_neg (by omega), if_neg (by omega), if_neg (by omega), if_pos hk] at h1; simpa using h1
theorem okB_name {c : Cm} (h : okB c = true) : (¬ (c.kind = 1 ∨ c.kind = 10) → c.name = ⟨#[]⟩) ∧ (c.kind ≠ 6 → c.num = 0) := by
  unfold okB at h
  simp only [Bool.and_eq_true, Bool.or_eq_true, decide_eq_true_eq] at h
  refine ⟨fun hk => h.1.2.resolve_left hk, fun hk => h.2.resolve_left hk⟩
theorem fApply_eq (s : ByteArray) : fApply ++ (s ++ fSemi) = sApp ++ (⟨#[32]⟩ ++ (s ++ (⟨#[32]⟩ ++ sSem))) := by
  rw [show fApply = sApp ++ ⟨#[32]⟩ by decide, show fSemi = ⟨#[32]⟩ ++ sSem by decide, ByteArray.append_assoc]
theorem fCall_eq (s : ByteArray) : fCall ++ (s ++ fSemi) = sCal ++ (⟨#[32]⟩ ++ (s ++ (⟨#[32]⟩ ++ sSem))) := by
  rw [show fCall = sCal ++ ⟨#[32]⟩ by decide, show fSemi = ⟨#[32]⟩ ++ sSem by decide, ByteArray.append_assoc]
theorem fSkip_eq : fSkip = sSki ++ (⟨#[32]⟩ ++ sSem) := by decide
theorem fFail_eq : fFail = sFai ++ (⟨#[32]⟩ ++ sSem) := by decide
theorem fOpen_eq : fOpen = ⟨#[32]⟩ ++ sOp := by decide
theorem wd_kw : ∀ s ∈ [sPro, sApp, sCal, sSki, sFai, sLoo, sTry, sIf, sThe, sEls, sCho, sOr, sRep], wdB (1, s) = true := by decide
theorem wd_sg : ∀ s ∈ [sOp, sCl, sSem], wdB (4, s) = true := by decide
theorem wd_name {s : ByteArray} (h : nameB s = true) : wdB (1, s) = true := by simp [wdB, h]
theorem wd_dig {n : Int} (h : 1 ≤ n ∧ n ≤ 9) : wdB (2, digR n) = true := by
  obtain ⟨m, rfl⟩ := Int.eq_ofNat_of_zero_le (show 0 ≤ n by omega)
  have : ∀ m : Nat, m < 10 → wdB (2, digR (m : Int)) = true := by decide
  exact this m (by omega)
theorem num_dig {n : Int} (h : 1 ≤ n ∧ n ≤ 9) : numR (digR n) = n := by
  obtain ⟨m, rfl⟩ := Int.eq_ofNat_of_zero_le (show 0 ≤ n by omega)
  have : ∀ m : Nat, m < 10 → numR (digR (m : Int)) = m := by decide
  exact this m (by omega)
def HdOk (ws : List ByteArray) (hs : List (List Wk)) : Prop := ∀ i, PutW (wdAt ws i) (hdAt hs i)
theorem hd_of {ws : List ByteArray} {hs : List (List Wk)} (hl : ws.length = hs.length) (h1 : 1 ≤ ws.length) (h : ∀ i, i < ws.length → PutW (ws.getD i ⟨#[]⟩) (hs.getD i [])) : HdOk ws hs := fun i => by
  unfold wdAt hdAt
  rw [← hl]
  exact h _ (by omega)
theorem putW_two {a b : ByteArray} {k l : Int} (h : wdB (k, a) = true) (h2 : wdB (l, b) = true) : PutW (a ++ (⟨#[32]⟩ ++ b)) [(k, a), (l, b)] := (putW_word h).sp (putW_word h2)
theorem hd_ok {k n : Int} (h : k = 6 → 1 ≤ n ∧ n ≤ 9) : HdOk (wdsR k n) (hdW k n) := by
  have w1 := fun s h => putW_word (wd_kw s h)
  have w2 := fun s h => putW_two (wd_sg sCl (by simp)) (wd_kw s h)
  unfold wdsR hdW
  split
  · refine hd_of rfl (by decide) fun i hi => ?_
    match i, hi with
    | 0, _ => exact w1 sCho (by simp)
    | 1, _ => exact w2 sOr (by simp)
  · split
    · refine hd_of rfl (by decide) fun i hi => ?_
      match i, hi with
      | 0, _ => exact w1 sIf (by simp)
      | 1, _ => exact w2 sThe (by simp)
      | 2, _ => exact w2 sEls (by simp)
    · split
      · refine hd_of rfl (by decide) fun i hi => ?_
        match i, hi with
        | 0, _ => exact w1 sLoo (by simp)
      · split
        · rename_i e
          refine hd_of rfl (Nat.le_refl 1) fun i hi => ?_
          match i, hi with
          | 0, _ =>
            have := putW_two (wd_kw sRep (by simp)) (wd_dig (h e))
            rw [← ByteArray.append_assoc] at this
            exact this
        · refine hd_of rfl (by decide) fun i hi => ?_
          match i, hi with
          | 0, _ => exact w1 sTry (by simp)
theorem put_fm : ∀ (n : Nat) (c : Cm), c.size < n → c.Fn → ∀ (bl : Bool) (ind : Nat), PutL (fmC bl ind c) (wsC bl c)
  | 0, c, h, _ => absurd h (Nat.not_lt_zero _)
  | n + 1, c, hz, hf => fun bl ind => by
    have ih := fun x (hx : x ∈ c.kids) => put_fm n x (by have := Cm.kid_size hx; omega) (hf.kid x hx)
    have w1 := fun s h => putW_word (wd_kw s h)
    have w2 := fun s h => putW_word (wd_sg s h)
    have k1 : ∀ l : List Cm, (∀ x ∈ l, ∀ (bl : Bool) (ind : Nat), PutL (fmC bl ind x) (wsC bl x)) → PutL (fmS ind l) (wsS l) := by
      intro l
      induction l with
      | nil => intro _; rw [fmS, wsS]; exact PutL.nil
      | cons x r ih2 =>
        intro hx
        rw [fmS, wsS]
        exact (hx x (by simp) false ind).app (ih2 fun y hy => hx y (by simp [hy]))
    have k2 : ∀ (ws : List ByteArray) (hs : List (List Wk)), HdOk ws hs → ∀ (l : List Cm) (i : Nat), (∀ x ∈ l, ∀ (bl : Bool) (ind : Nat), PutL (fmC bl ind x) (wsC bl x)) → PutL (fmK ind ws i l) (wsK hs i l) := by
      intro ws hs hh l
      induction l with
      | nil => intro i _; rw [fmK, wsK]; exact PutL.nil
      | cons x r ih2 =>
        intro i hx
        rw [fmK, wsK]
        refine PutL.app ?_ (ih2 (i + 1) fun y hy => hx y (by simp [hy]))
        refine PutL.app ?_ (hx x (by simp) true (ind + 1))
        rw [fOpen_eq]
        exact putL_line ((hh i).sp (w2 sOp (by simp))) ind
    rw [fmC_eq, wsC_eq]
    split
    · exact k1 _ ih
    · split
      · rename_i e
        rw [fApply_eq]
        exact putL_line ((w1 sApp (by simp)).sp ((putW_word (wd_name (hf.nm (.inl e)))).sp (w2 sSem (by simp)))) ind
      · split
        · rename_i e
          rw [fCall_eq]
          exact putL_line ((w1 sCal (by simp)).sp ((putW_word (wd_name (hf.nm (.inr e)))).sp (w2 sSem (by simp)))) ind
        · split
          · rw [fSkip_eq]
            exact putL_line ((w1 sSki (by simp)).sp (w2 sSem (by simp))) ind
          · split
            · rw [fFail_eq]
              exact putL_line ((w1 sFai (by simp)).sp (w2 sSem (by simp))) ind
            · exact (k2 _ _ (hd_ok hf.num) c.kids 0 ih).app (putL_line (w2 sCl (by simp)) ind)
def wsP (q : Pr) : List Wk := [(1, sPro), (1, q.name), wOp] ++ wsC true q.body ++ [wCl]
def wsPs : List Pr → List Wk
  | [] => []
  | q :: r => wsP q ++ wsPs r
theorem fPro_eq (s : ByteArray) : fPro ++ (s ++ fOpen) = sPro ++ (⟨#[32]⟩ ++ (s ++ (⟨#[32]⟩ ++ sOp))) := by
  rw [show fPro = sPro ++ ⟨#[32]⟩ by decide, fOpen_eq, ByteArray.append_assoc]
def PrFn (l : List Pr) : Prop := ∀ q ∈ l, nameB q.name = true ∧ q.body.Fn
theorem put_prs : ∀ l : List Pr, PrFn l → PutL (fmPs l) (wsPs l)
  | [], _ => PutL.nil
  | q :: r, h => by
    obtain ⟨h1, h2⟩ := h q (by simp)
    have w1 := fun s h => putW_word (wd_kw s h)
    have w2 := fun s h => putW_word (wd_sg s h)
    rw [fmPs, wsPs, fmP, wsP, fPro_eq]
    exact (((putL_line ((w1 sPro (by simp)).sp ((putW_word (wd_name h1)).sp (w2 sOp (by simp)))) 0).app (put_fm _ q.body (Nat.lt_succ_self _) h2 true 1)).app (putL_line (w2 sCl (by simp)) 0)).app (put_prs r fun x hx => h x (by simp [hx]))
theorem hdAt_len (k n : Int) (i : Nat) : (hdAt (hdW k n) i).length ≤ 2 := by
  have h : ∀ l ∈ hdW k n, l.length ≤ 2 := by
    unfold hdW
    repeat' split
    all_goals (intro l hl; simp only [List.mem_cons, List.not_mem_nil, or_false] at hl; rcases hl with rfl | rfl | rfl <;> first | decide | simp)
  unfold hdAt
  rw [List.getD_eq_getElem?_getD]
  cases hx : (hdW k n)[min i ((hdW k n).length - 1)]? with
  | none => show 0 ≤ 2; omega
  | some w => exact h w (List.mem_of_getElem? hx)
theorem wsC_len : ∀ (n : Nat) (c : Cm), c.size < n → ∀ bl, (wsC bl c).length + 3 ≤ 6 * c.size
  | 0, c, h => absurd h (Nat.not_lt_zero _)
  | n + 1, c, hz => fun bl => by
    have ih := fun x (hx : x ∈ c.kids) => wsC_len n x (by have := Cm.kid_size hx; omega)
    have hs := c.size_eq
    have k1 : ∀ l : List Cm, (∀ x ∈ l, ∀ (bl : Bool), (wsC bl x).length + 3 ≤ 6 * x.size) → (wsS l).length ≤ 6 * Cm.sizeL l := by
      intro l
      induction l with
      | nil => intro _; rw [wsS]; simp
      | cons x r ih2 =>
        intro hx
        have := hx x (by simp) false
        have := ih2 fun y hy => hx y (by simp [hy])
        rw [wsS, List.length_append, Cm.sizeL]
        omega
    have k2 : ∀ (a b : Int) (l : List Cm) (i : Nat), (∀ x ∈ l, ∀ (bl : Bool), (wsC bl x).length + 3 ≤ 6 * x.size) → (wsK (hdW a b) i l).length ≤ 6 * Cm.sizeL l := by
      intro a b l
      induction l with
      | nil => intro i _; rw [wsK]; simp
      | cons x r ih2 =>
        intro i hx
        have := hx x (by simp) true
        have := ih2 (i + 1) fun y hy => hx y (by simp [hy])
        have := hdAt_len a b i
        rw [wsK, List.length_append, List.length_append, List.length_append, Cm.sizeL]
        simp only [List.length_singleton]
        omega
    rw [wsC_eq]
    split
    · have := k1 _ ih; omega
    · repeat' split
      all_goals first
        | (simp only [List.length_cons, List.length_nil]; omega)
        | (have := k2 c.kind c.num _ 0 ih; rw [List.length_append, List.length_singleton]; omega)
theorem wsPs_len : ∀ l : List Pr, (wsPs l).length ≤ 6 * (l.map fun q => q.body.size).sum + l.length
  | [] => by simp [wsPs]
  | q :: r => by
    have h1 := wsC_len _ q.body (Nat.lt_succ_self _) true
    have h2 := wsPs_len r
    simp only [wsPs, wsP, List.length_append, List.map_cons, List.sum_cons, List.length_cons, List.length_nil]
    omega
end Go.AM
namespace Go.AM
open Go Go.Proofs Go.Shelf
def Fr (L : List Tk) (a : Nat) (ws : List Wk) : Prop := ∃ rest, (L.map Tk.kt).drop a = ws ++ rest
theorem Fr.app {L : List Tk} {a : Nat} {x y : List Wk} (h : Fr L a (x ++ y)) : Fr L a x ∧ Fr L (a + x.length) y := by
  obtain ⟨rest, h⟩ := h
  refine ⟨⟨y ++ rest, by rw [h, List.append_assoc]⟩, ⟨rest, ?_⟩⟩
  rw [← List.drop_drop, h, List.append_assoc, List.drop_left]
theorem Fr.head {L : List Tk} {a : Nat} {w : Wk} {ws : List Wk} (h : Fr L a (w :: ws)) : ∃ t, L[a]? = some t ∧ t.kt = w := by
  obtain ⟨rest, h⟩ := h
  have h1 := congrArg (fun l => l[0]?) h
  simp only [List.getElem?_drop, List.cons_append, List.getElem?_cons_zero, List.getElem?_map, Nat.add_zero] at h1
  cases hx : L[a]? with
  | none => rw [hx] at h1; cases h1
  | some t => rw [hx] at h1; exact ⟨t, rfl, by simpa using h1⟩
theorem Fr.tail {L : List Tk} {a : Nat} {w : Wk} {ws : List Wk} (h : Fr L a (w :: ws)) : Fr L (a + 1) ws := (Fr.app (x := [w]) (y := ws) h).2
theorem Fr.len {L : List Tk} {a : Nat} {ws : List Wk} (h : Fr L a ws) (h1 : ws ≠ []) : a + ws.length ≤ L.length := by
  obtain ⟨rest, h⟩ := h
  have := congrArg List.length h
  rw [List.length_drop, List.length_map, List.length_append] at this
  have : 1 ≤ ws.length := List.length_pos_iff.2 h1
  omega
theorem peek_at {L : List Tk} {a : Nat} {k : Int} {s : ByteArray} {ws : List Wk} (h : Fr L a ((k, s) :: ws)) (hk : k = 1 ∨ k = 4) (x : ByteArray) : peekB L ⟨a, -1⟩ x = decide (s = x) := by
  obtain ⟨t, h1, h2⟩ := h.head
  have e1 : t.kind = k := congrArg Prod.fst h2
  have e2 : t.text = s := congrArg Prod.snd h2
  simp only [peekB, isAt, h1, e1, e2]
  rcases hk with rfl | rfl <;> simp
theorem take_at {L : List Tk} {a : Nat} {k : Int} {s : ByteArray} {ws : List Wk} (h : Fr L a ((k, s) :: ws)) (hk : k = 1 ∨ k = 4) : takeR L ⟨a, -1⟩ s = ⟨a + 1, -1⟩ := by
  rw [takeR, peek_at h hk, if_pos (by simp)]
theorem kind_at {L : List Tk} {a : Nat} {k : Int} {s : ByteArray} {ws : List Wk} (h : Fr L a ((k, s) :: ws)) : kindR L ⟨a, -1⟩ k = (s, ⟨a + 1, -1⟩) := by
  obtain ⟨t, h1, h2⟩ := h.head
  have e1 : t.kind = k := congrArg Prod.fst h2
  have e2 : t.text = s := congrArg Prod.snd h2
  have hb : kindB L ⟨a, -1⟩ k = true := by simp [kindB, kindAt, h1, e1]
  rw [kindR, if_pos hb]
  simp only [textAt, h1, e2]
theorem wsC_head {c : Cm} (h : c.Fn) (h2 : c.kind ≠ 2) : ∃ s ws, wsC false c = (1, s) :: ws ∧ s ≠ sOr ∧ s ≠ sCl := by
  have hk := okB_kind h.ok
  have hl := okB_lens h.ok
  rw [wsC_eq]
  simp only [Bool.false_and, Bool.false_eq_true, if_false]
  split
  · exact ⟨_, _, rfl, by decide, by decide⟩
  · split
    · exact ⟨_, _, rfl, by decide, by decide⟩
    · split
      · exact ⟨_, _, rfl, by decide, by decide⟩
      · split
        · exact ⟨_, _, rfl, by decide, by decide⟩
        · obtain ⟨x, r, hx⟩ : ∃ x r, c.kids = x :: r := by
            cases hc : c.kids with
            | nil => rw [hc] at hl; simp at hl; omega
            | cons x r => exact ⟨x, r, rfl⟩
          rw [hx, wsK]
          have hh : ∃ s ws, hdAt (hdW c.kind c.num) 0 = (1, s) :: ws ∧ s ≠ sOr ∧ s ≠ sCl := by
            unfold hdW
            repeat' split
            all_goals exact ⟨_, _, rfl, by decide, by decide⟩
          obtain ⟨s, ws, e, e1, e2⟩ := hh
          exact ⟨s, _, by rw [e]; rfl, e1, e2⟩
def CmdOk (L : List Tk) (n : Nat) : Prop := ∀ c : Cm, c.Fn → c.kind ≠ 2 → ∀ a, Fr L a (wsC false c) → (wsC false c).length ≤ n → peekB L ⟨a + (wsC false c).length, -1⟩ sOr = false → pCmd L n ⟨a, -1⟩ = (c, ⟨a + (wsC false c).length, -1⟩)
def BlkOk (L : List Tk) (n : Nat) : Prop := ∀ c : Cm, c.Fn → ∀ a, Fr L a (wOp :: (wsC true c ++ [wCl])) → (wsC true c).length + 1 ≤ n → pBlk L n ⟨a, -1⟩ = (c, ⟨a + (wsC true c).length + 2, -1⟩)
theorem wsS_one {x : Cm} {r : List Cm} : wsS (x :: r) = wsC false x ++ wsS r := by rw [wsS]
theorem peek_next {L : List Tk} {r : List Cm} {a : Nat} {w : ByteArray} (hr : ∀ x ∈ r, Cm.Fn x ∧ x.kind ≠ 2) (hw : w = sOr) (h : Fr L a (wsS r ++ [wCl])) : peekB L ⟨a, -1⟩ w = false := by
  subst hw
  cases r with
  | nil =>
    rw [wsS, List.nil_append] at h
    rw [peek_at h (.inr rfl)]
    decide
  | cons x r =>
    obtain ⟨s, ws, e, e1, e2⟩ := wsC_head (hr x (by simp)).1 (hr x (by simp)).2
    rw [wsS_one, e, List.append_assoc] at h
    rw [peek_at h (.inl rfl), decide_eq_false e1]
theorem rest_at {L : List Tk} {n : Nat} (hC : CmdOk L n) : ∀ (r acc : List Cm) (f a : Nat), (∀ x ∈ r, Cm.Fn x ∧ x.kind ≠ 2 ∧ (wsC false x).length ≤ n) → r.length + 1 ≤ f → Fr L a (wsS r ++ [wCl]) →
    restR L (fun q => pCmd L n q) f ⟨a, -1⟩ acc = (acc ++ r, ⟨a + (wsS r).length, -1⟩)
  | [], acc, f, a, _, hf, h => by
    obtain ⟨f, rfl⟩ : ∃ g, f = g + 1 := ⟨f - 1, by omega⟩
    rw [wsS, List.nil_append] at h
    rw [restR, peek_at h (.inr rfl), if_neg (by simp [sCl]), List.append_nil, wsS]
    rfl
  | x :: r, acc, f, a, hx, hf, h => by
    obtain ⟨f, rfl⟩ : ∃ g, f = g + 1 := ⟨f - 1, by omega⟩
    obtain ⟨x1, x2, x3⟩ := hx x (by simp)
    obtain ⟨s, ws, e, e1, e2⟩ := wsC_head x1 x2
    have hp : peekB L ⟨a, -1⟩ sCl = false := by
      have h' := h
      rw [wsS_one, e, List.append_assoc] at h'
      rw [peek_at h' (.inl rfl), decide_eq_false e2]
    rw [wsS_one, List.append_assoc] at h
    obtain ⟨h1, h2⟩ := h.app
    have hn := peek_next (fun y hy => ⟨(hx y (by simp [hy])).1, (hx y (by simp [hy])).2.1⟩) rfl h2
    have hc := hC x x1 x2 a h1 x3 hn
    rw [restR, hp, if_pos (by simp)]
    rw [hc]
    try simp only
    rw [rest_at hC r (acc ++ [x]) f _ (fun y hy => hx y (by simp [hy])) (by simpa using hf) h2, wsS_one, List.append_assoc, List.singleton_append, List.length_append, Nat.add_assoc]
theorem wsS_mem : ∀ {l : List Cm} {x : Cm}, x ∈ l → (wsC false x).length ≤ (wsS l).length
  | y :: r, x, h => by
    rw [wsS_one, List.length_append]
    rcases List.mem_cons.1 h with rfl | h
    · omega
    · have := wsS_mem h; omega
theorem wsC_ne {c : Cm} (h : c.Fn) (h2 : c.kind ≠ 2) : 1 ≤ (wsC false c).length := by
  obtain ⟨s, ws, e, _⟩ := wsC_head h h2
  rw [e]; simp
theorem wsS_len : ∀ {l : List Cm}, (∀ x ∈ l, Cm.Fn x ∧ x.kind ≠ 2) → l.length ≤ (wsS l).length
  | [], _ => by simp
  | x :: r, h => by
    have h1 := wsC_ne (h x (by simp)).1 (h x (by simp)).2
    have h2 := wsS_len (l := r) fun y hy => h y (List.mem_cons_of_mem _ hy)
    rw [wsS_one, List.length_append, List.length_cons]
    omega
def blkL (c : Cm) : List Cm := if c.kind = 2 then c.kids else [c]
theorem blkL_ws (c : Cm) : wsC true c = wsS (blkL c) := by
  unfold blkL
  split
  · rename_i e; rw [wsC_eq, if_pos (by simp [e])]
  · rename_i e
    rw [wsS, wsS, List.append_nil, wsC_eq, wsC_eq]
    simp [e]
theorem blkL_ok {c : Cm} (h : c.Fn) : (∀ x ∈ blkL c, Cm.Fn x ∧ x.kind ≠ 2) ∧ 1 ≤ (blkL c).length ∧ wrapC (blkL c) = c := by
  unfold blkL
  split
  · rename_i e
    obtain ⟨h1, h2⟩ := okB_len2 h.ok e
    obtain ⟨n1, n2⟩ := okB_name h.ok
    refine ⟨fun x hx => ⟨h.kid x hx, h2 x hx⟩, by omega, ?_⟩
    obtain ⟨k, s, m, l⟩ := c
    simp only [Cm.kind, Cm.name, Cm.num, Cm.kids] at *
    have e1 := n1 (by omega)
    have e2 := n2 (by omega)
    subst e e1 e2
    match l, h1 with
    | x :: y :: r, _ => rfl
  · rename_i e
    exact ⟨fun x hx => by simp at hx; subst hx; exact ⟨h, e⟩, by simp, rfl⟩
theorem blk_step {L : List Tk} {n : Nat} (hC : CmdOk L n) : BlkOk L (n + 1) := fun c hc a h hn => by
  obtain ⟨b1, b2, b3⟩ := blkL_ok hc
  rw [blkL_ws] at h hn ⊢
  generalize blkL c = l at *
  cases l with
  | nil => simp at b2
  | cons x r =>
    have hx := b1 x (by simp)
    have hle := wsS_mem (l := x :: r) (x := x) (by simp)
    have hln := wsS_len b1
    have hL := h.len (by simp)
    have ht := take_at h (.inr rfl)
    have h' := h.tail
    rw [wsS_one, List.append_assoc] at h'
    obtain ⟨h1, h2⟩ := h'.app
    have hcx := hC x hx.1 hx.2 _ h1 (by omega) (peek_next (fun y hy => b1 y (by simp [hy])) rfl h2)
    have hrs := rest_at hC r [x] (L.length + 1) _ (fun y hy => ⟨(b1 y (by simp [hy])).1, (b1 y (by simp [hy])).2, by have := wsS_mem (l := x :: r) (x := y) (by simp [hy]); omega⟩) (by simp only [List.length_cons, List.length_append, List.length_nil] at hL hln; omega) h2
    have hcl := take_at (h2.app).2 (.inr rfl)
    rw [pBlk, blockR]
    simp only [ht, hcx, hrs, hcl]
    rw [List.singleton_append, b3, wsS_one, List.length_append]
    congr 2
    omega
theorem word_blk {L : List Tk} {n : Nat} (hB : BlkOk L n) {w : ByteArray} {c : Cm} {a : Nat} {ws : List Wk} (hc : c.Fn) (hn : (wsC true c).length + 1 ≤ n) (h : Fr L a ((1, w) :: wOp :: (wsC true c ++ wCl :: ws))) :
    takeR L ⟨a, -1⟩ w = ⟨a + 1, -1⟩ ∧ pBlk L n ⟨a + 1, -1⟩ = (c, ⟨a + (wsC true c).length + 3, -1⟩) ∧ Fr L (a + (wsC true c).length + 3) ws := by
  have h1 := h.tail
  have h2 : Fr L (a + 1) ((wOp :: (wsC true c ++ [wCl])) ++ ws) := by simpa using h1
  obtain ⟨h3, h4⟩ := h2.app
  have h5 := hB c hc _ h3 hn
  refine ⟨take_at h (.inl rfl), by rw [h5]; congr 2; omega, ?_⟩
  have e : a + 1 + (wOp :: (wsC true c ++ [wCl])).length = a + (wsC true c).length + 3 := by simp; omega
  rw [e] at h4
  exact h4
def orW : List Cm → List Wk
  | [] => []
  | x :: r => (1, sOr) :: wOp :: (wsC true x ++ wCl :: orW r)
theorem orW_len : ∀ r : List Cm, r.length ≤ (orW r).length
  | [] => by simp
  | x :: r => by have := orW_len r; rw [orW]; simp only [List.length_cons, List.length_append]; omega
theorem orW_wsK (n : Int) : ∀ (l : List Cm) (i : Nat), 1 ≤ i → wCl :: orW l = wsK (hdW 3 n) i l ++ [wCl]
  | [], i, _ => by rw [wsK, orW, List.nil_append]
  | x :: r, i, hi => by
    have hh : hdAt (hdW 3 n) i = [wCl, (1, sOr)] := by
      unfold hdAt
      have : min i ((hdW 3 n).length - 1) = 1 := by
        have : (hdW 3 n).length = 2 := rfl
        omega
      rw [this]
      rfl
    rw [wsK, orW, hh, orW_wsK n r (i + 1) (by omega)]
    simp
theorem ors_at {L : List Tk} {n : Nat} (hB : BlkOk L n) : ∀ (r acc : List Cm) (f a : Nat), (∀ x ∈ r, Cm.Fn x ∧ (wsC true x).length + 1 ≤ n) → r.length + 1 ≤ f → Fr L a (orW r) → peekB L ⟨a + (orW r).length, -1⟩ sOr = false →
    orsR L (fun q => pBlk L n q) f ⟨a, -1⟩ acc = (acc ++ r, ⟨a + (orW r).length, -1⟩)
  | [], acc, f, a, _, hf, h, hp => by
    obtain ⟨f, rfl⟩ : ∃ g, f = g + 1 := ⟨f - 1, by omega⟩
    rw [orW] at hp ⊢
    simp only [List.length_nil, Nat.add_zero] at hp ⊢
    rw [orsR, hp, if_neg (by simp), List.append_nil]
  | x :: r, acc, f, a, hx, hf, h, hp => by
    obtain ⟨f, rfl⟩ : ∃ g, f = g + 1 := ⟨f - 1, by omega⟩
    obtain ⟨x1, x2⟩ := hx x (by simp)
    have e : a + (orW (x :: r)).length = a + (wsC true x).length + 3 + (orW r).length := by
      rw [orW]; simp only [List.length_cons, List.length_append]; omega
    rw [e] at hp ⊢
    rw [orW] at h
    have hpk := peek_at h (.inl rfl) sOr
    obtain ⟨_, h2, h3⟩ := word_blk hB x1 x2 h
    rw [orsR, hpk, if_pos (by simp)]
    simp only
    rw [h2]
    simp only
    rw [ors_at hB r (acc ++ [x]) f _ (fun y hy => hx y (by simp [hy])) (by simpa using hf) h3 hp, List.append_assoc, List.singleton_append]
theorem wsK_mem {hs : List (List Wk)} : ∀ {l : List Cm} {i : Nat} {x : Cm}, x ∈ l → (wsC true x).length + 1 ≤ (wsK hs i l).length
  | y :: r, i, x, h => by
    rw [wsK, List.length_append, List.length_append, List.length_append, List.length_singleton]
    rcases List.mem_cons.1 h with rfl | h
    · omega
    · have := wsK_mem (hs := hs) (i := i + 1) h; omega
theorem cmd_step {L : List Tk} {n : Nat} (hB : BlkOk L n) : CmdOk L (n + 1) := fun c hc h2 a h hn hp => by
  obtain ⟨s, ws, e, e1, e2⟩ := wsC_head hc h2
  have hk := okB_kind hc.ok
  obtain ⟨l3, l4, l5, l1⟩ := okB_lens hc.ok
  obtain ⟨n1, n2⟩ := okB_name hc.ok
  have hkw : pCmd L (n + 1) ⟨a, -1⟩ = cmdS L (fun q => pBlk L n q) s ⟨a + 1, -1⟩ := by
    have h' := h
    rw [e] at h'
    rw [pCmd, cmdR, if_pos (by show (-1 : Int) < 0; decide)]
    rw [kind_at h']
  have hkids : ∀ x ∈ c.kids, c.kind ≠ 1 → c.kind ≠ 10 → c.kind ≠ 8 → c.kind ≠ 9 → Cm.Fn x ∧ (wsC true x).length + 1 ≤ n := fun x hx k1 k2 k3 k4 => by
    refine ⟨hc.kid x hx, ?_⟩
    rw [wsC_eq] at hn
    simp only [Bool.false_and, Bool.false_eq_true, if_false, if_neg k1, if_neg k2, if_neg k3, if_neg k4, List.length_append, List.length_singleton] at hn
    have := wsK_mem (hs := hdW c.kind c.num) (i := 0) hx
    omega
  rw [hkw]
  clear hkw hn
  obtain ⟨k, nm, nu, l⟩ := c
  have hE : wsC false (.mk k nm nu l) = if k = 1 then [(1, sApp), (1, nm), wSem] else if k = 10 then [(1, sCal), (1, nm), wSem] else if k = 8 then [(1, sSki), wSem] else if k = 9 then [(1, sFai), wSem] else wsK (hdW k nu) 0 l ++ [wCl] := by
    rw [wsC]
    simp only [Bool.false_and, Bool.false_eq_true, if_false]
  rw [hE] at e h hp ⊢
  simp only [Cm.kind, Cm.name, Cm.num, Cm.kids] at hk l3 l4 l5 l1 n1 n2 h2 hkids
  by_cases k1 : k = 1
  · subst k1
    have := l1 (by decide)
    obtain rfl : l = [] := List.eq_nil_of_length_eq_zero this
    obtain rfl := n2 (by decide)
    rw [if_pos rfl] at e h hp ⊢
    obtain ⟨rfl, _⟩ : sApp = s ∧ True := ⟨by injection e with e _; injection e, trivial⟩
    have t1 := kind_at h.tail
    have t2 := take_at h.tail.tail (.inr rfl)
    rw [cmdS, if_pos rfl, simpR, if_pos rfl, t1]
    simp only
    rw [t2]
    rfl
  rw [if_neg k1] at e h hp ⊢
  by_cases k2 : k = 10
  · subst k2
    have := l1 (by decide)
    obtain rfl : l = [] := List.eq_nil_of_length_eq_zero this
    obtain rfl := n2 (by decide)
    rw [if_pos rfl] at e h hp ⊢
    obtain ⟨rfl, _⟩ : sCal = s ∧ True := ⟨by injection e with e _; injection e, trivial⟩
    have t1 := kind_at h.tail
    have t2 := take_at h.tail.tail (.inr rfl)
    rw [cmdS, if_neg (by decide), if_pos rfl, simpR, if_pos rfl, t1]
    simp only
    rw [t2]
    rfl
  rw [if_neg k2] at e h hp ⊢
  by_cases k3 : k = 8
  · subst k3
    have := l1 (by decide)
    obtain rfl : l = [] := List.eq_nil_of_length_eq_zero this
    obtain rfl := n2 (by decide)
    obtain rfl := n1 (by decide)
    rw [if_pos rfl] at e h hp ⊢
    obtain ⟨rfl, _⟩ : sSki = s ∧ True := ⟨by injection e with e _; injection e, trivial⟩
    have t2 := take_at h.tail (.inr rfl)
    rw [cmdS, if_neg (by decide), if_neg (by decide), if_pos rfl, simpR, if_neg (by decide), t2]
    rfl
  rw [if_neg k3] at e h hp ⊢
  by_cases k4 : k = 9
  · subst k4
    have := l1 (by decide)
    obtain rfl : l = [] := List.eq_nil_of_length_eq_zero this
    obtain rfl := n2 (by decide)
    obtain rfl := n1 (by decide)
    rw [if_pos rfl] at e h hp ⊢
    obtain ⟨rfl, _⟩ : sFai = s ∧ True := ⟨by injection e with e _; injection e, trivial⟩
    have t2 := take_at h.tail (.inr rfl)
    rw [cmdS, if_neg (by decide), if_neg (by decide), if_neg (by decide), if_pos rfl, simpR, if_neg (by decide), t2]
    rfl
  rw [if_neg k4] at e h hp ⊢
  obtain rfl := n1 (by omega)
  have hkd := fun x hx => hkids x hx k1 k2 k3 k4
  by_cases k5 : k = 5
  · subst k5
    obtain rfl := n2 (by decide)
    match l, l5 (by decide) with
    | [x], _ =>
      have ew : wsK (hdW 5 0) 0 [x] ++ [wCl] = (1, sLoo) :: wOp :: (wsC true x ++ wCl :: []) := by rw [wsK, wsK]; simp [hdAt, hdW]
      rw [ew] at e h hp ⊢
      obtain ⟨rfl, _⟩ : sLoo = s ∧ True := ⟨by injection e with e _; injection e, trivial⟩
      obtain ⟨_, b2, _⟩ := word_blk hB (hkd x (by simp)).1 (hkd x (by simp)).2 h
      rw [cmdS, if_neg (by decide), if_neg (by decide), if_neg (by decide), if_neg (by decide), if_pos rfl, blocksR, blksR, asK]
      simp only [b2, List.length_cons, List.length_append, List.length_nil]
      congr 2
  by_cases k7 : k = 7
  · subst k7
    obtain rfl := n2 (by decide)
    match l, l5 (by decide) with
    | [x], _ =>
      have ew : wsK (hdW 7 0) 0 [x] ++ [wCl] = (1, sTry) :: wOp :: (wsC true x ++ wCl :: []) := by rw [wsK, wsK]; simp [hdAt, hdW]
      rw [ew] at e h hp ⊢
      obtain ⟨rfl, _⟩ : sTry = s ∧ True := ⟨by injection e with e _; injection e, trivial⟩
      obtain ⟨_, b2, _⟩ := word_blk hB (hkd x (by simp)).1 (hkd x (by simp)).2 h
      rw [cmdS, if_neg (by decide), if_neg (by decide), if_neg (by decide), if_neg (by decide), if_neg (by decide), if_pos rfl, blocksR, blksR, asK]
      simp only [b2, List.length_cons, List.length_append, List.length_nil]
      congr 2
  by_cases k6 : k = 6
  · subst k6
    have hnum := hc.num rfl
    simp only [Cm.num] at hnum
    match l, l5 (by decide) with
    | [x], _ =>
      have ew : wsK (hdW 6 nu) 0 [x] ++ [wCl] = (1, sRep) :: (2, digR nu) :: wOp :: (wsC true x ++ [wCl]) := by rw [wsK, wsK]; simp [hdAt, hdW]
      rw [ew] at e h hp ⊢
      obtain ⟨rfl, _⟩ : sRep = s ∧ True := ⟨by injection e with e _; injection e, trivial⟩
      have t1 := kind_at h.tail
      have b2 := hB x (hkd x (by simp)).1 _ h.tail.tail (hkd x (by simp)).2
      rw [cmdS, if_neg (by decide), if_neg (by decide), if_neg (by decide), if_neg (by decide), if_neg (by decide), if_neg (by decide), if_neg (by decide), if_neg (by decide), if_pos rfl, t1]
      simp only
      rw [blocksR, blksR, asK, num_dig hnum]
      simp only [b2, List.length_cons, List.length_append, List.length_nil]
      congr 2
      omega
  obtain rfl := n2 k6
  by_cases k8 : k = 4
  · subst k8
    match l, l4 rfl with
    | [x, y, z], _ =>
      have ew : wsK (hdW 4 0) 0 [x, y, z] ++ [wCl] = (1, sIf) :: wOp :: (wsC true x ++ wCl :: (1, sThe) :: wOp :: (wsC true y ++ wCl :: (1, sEls) :: wOp :: (wsC true z ++ wCl :: []))) := by rw [wsK, wsK, wsK, wsK]; simp [hdAt, hdW]
      rw [ew] at e h hp ⊢
      obtain ⟨rfl, _⟩ : sIf = s ∧ True := ⟨by injection e with e _; injection e, trivial⟩
      obtain ⟨_, b2, h2'⟩ := word_blk hB (hkd x (by simp)).1 (hkd x (by simp)).2 h
      obtain ⟨c1, c2, h3'⟩ := word_blk hB (hkd y (by simp)).1 (hkd y (by simp)).2 h2'
      obtain ⟨d1, d2, _⟩ := word_blk hB (hkd z (by simp)).1 (hkd z (by simp)).2 h3'
      rw [cmdS, if_neg (by decide), if_neg (by decide), if_neg (by decide), if_neg (by decide), if_neg (by decide), if_neg (by decide), if_pos rfl, blocksR, blksR, blksR, blksR, asK]
      simp only [b2, c1, c2, d1, d2, List.length_cons, List.length_append, List.length_nil, List.cons_append, List.nil_append]
      congr 2
      omega
  have k9 : k = 3 := by omega
  subst k9
  match l, l3 rfl with
  | x :: y :: r, _ =>
    have ew : wsK (hdW 3 0) 0 (x :: y :: r) ++ [wCl] = (1, sCho) :: wOp :: (wsC true x ++ wCl :: (1, sOr) :: wOp :: (wsC true y ++ wCl :: orW r)) := by
      have := orW_wsK 0 (y :: r) 1 (Nat.le_refl _)
      rw [wsK, List.append_assoc, ← this, orW]
      simp [hdAt, hdW]
    rw [ew] at e h hp ⊢
    obtain ⟨rfl, _⟩ : sCho = s ∧ True := ⟨by injection e with e _; injection e, trivial⟩
    have hlen := h.len (by simp)
    have hol := orW_len r
    obtain ⟨_, b2, h2'⟩ := word_blk hB (hkd x (by simp)).1 (hkd x (by simp)).2 h
    obtain ⟨c1, c2, h3'⟩ := word_blk hB (hkd y (by simp)).1 (hkd y (by simp)).2 h2'
    simp only [List.length_cons, List.length_append] at hp hlen ⊢
    have hor := ors_at hB r [x, y] (L.length + 1) _ (fun z hz => hkd z (by simp [hz])) (by omega) h3' (by rw [← hp]; congr 2; omega)
    rw [cmdS, if_neg (by decide), if_neg (by decide), if_neg (by decide), if_neg (by decide), if_neg (by decide), if_neg (by decide), if_neg (by decide), if_pos rfl, blocksR, blksR, blksR, asK]
    simp only [b2, c1, c2, List.cons_append, List.nil_append, hor]
    congr 2
    omega
theorem both_ok (L : List Tk) : ∀ n, CmdOk L n ∧ BlkOk L n
  | 0 => by
    refine ⟨fun c hc h2 a h hn _ => ?_, fun c hc a h hn => by omega⟩
    have := wsC_ne hc h2
    omega
  | n + 1 => ⟨cmd_step (both_ok L n).2, blk_step (both_ok L n).1⟩
theorem top_at {L : List Tk} : ∀ (l : List Pr) (f a : Nat) (ps : List Pr) (ls : List Int), PrFn l → l.length ≤ f → (L.map Tk.kt).drop a = wsPs l → a ≤ L.length → (1 ≤ L.length) →
    ∃ ls', topR L f ⟨⟨a, -1⟩, ps, ls⟩ = ⟨⟨L.length, -1⟩, ps ++ l, ls'⟩
  | [], f, a, ps, ls, _, hf, h, ha, h1 => by
    have hl : L.length ≤ a := by
      have := congrArg List.length h
      rw [List.length_drop, List.length_map, wsPs] at this
      simp at this
      omega
    have e : a = L.length := by omega
    subst e
    cases f with
    | zero => exact ⟨ls, by rw [topR, List.append_nil]⟩
    | succ f => exact ⟨ls, by rw [topR, if_neg (fun h => by rcases h.2 with h | h; exact absurd (show L.length < L.length from h) (by omega); omega), List.append_nil]⟩
  | q :: r, f, a, ps, ls, hq, hf, h, ha, h1 => by
    obtain ⟨f, rfl⟩ : ∃ g, f = g + 1 := ⟨f - 1, by simp at hf; omega⟩
    obtain ⟨q1, q2⟩ := hq q (by simp)
    have hfr : Fr L a ((1, sPro) :: (1, q.name) :: ((wOp :: (wsC true q.body ++ [wCl])) ++ wsPs r)) := ⟨[], by rw [h, wsPs, wsP]; simp⟩
    have hln := hfr.len (by simp)
    simp only [List.length_cons, List.length_append, List.length_nil] at hln
    have t1 := take_at hfr (.inl rfl)
    have t2 := kind_at hfr.tail
    have t3 := (both_ok L (L.length + 1)).2 q.body q2 _ (hfr.tail.tail.app).1 (by omega)
    have hd : (L.map Tk.kt).drop (a + 1 + 1 + (wsC true q.body).length + 2) = wsPs r := by
      have e : a + 1 + 1 + (wsC true q.body).length + 2 = a + (wsP q).length := by rw [wsP]; simp; omega
      rw [e, ← List.drop_drop, h, wsPs, List.drop_left]
    obtain ⟨ls', ih⟩ := top_at r f _ (ps ++ [q]) (ls ++ [lineAt L a]) (fun x hx => hq x (by simp [hx])) (by simpa using hf) hd (by omega) h1
    refine ⟨ls', ?_⟩
    rw [topR, if_pos ⟨by show (-1 : Int) < 0; decide, .inl (by show a < _; omega)⟩, topS]
    simp only [t1, t2, t3]
    rw [ih, List.append_assoc, List.singleton_append]
theorem parseL_back {L : List Tk} {p : List Pr} (hp : PrFn p) (hf : (faultR p [] false).2 = 0) (h1 : 1 ≤ p.length) (hL : L.map Tk.kt = wsPs p) : parseL L = (p, 0, 0) := by
  have hl : p.length ≤ L.length := by
    have h2 : ∀ l : List Pr, l.length ≤ (wsPs l).length := fun l => by
      induction l with
      | nil => simp
      | cons x r ih => rw [wsPs, wsP]; simp only [List.length_append, List.length_cons, List.length_nil]; omega
    have := h2 p
    rw [← hL, List.length_map] at this
    exact this
  obtain ⟨ls', ht⟩ := top_at (L := L) p (L.length + 1) 0 [] [] hp (by omega) (by rw [List.drop_zero]; exact hL) (Nat.zero_le _) (by omega)
  rw [List.nil_append] at ht
  rw [parseL, if_neg (by omega), ht]
  simp only
  rw [if_neg (by decide), if_neg (by rw [hf]; simp)]
theorem fault_fn {p : List Pr} (h : (faultR p [] false).2 = 0) : PrFn p ∧ 1 ≤ p.length ∧ p.length ≤ 20 ∧ ∀ q ∈ p, q.body.size ≤ 60 := by
  obtain ⟨_, h20, h1, h2⟩ := fault_valid h
  have key : ∀ q ∈ p, (nameB q.name = true ∧ q.body.Fn) ∧ q.body.size ≤ 60 := fun q hq => by
    obtain ⟨i, hi, rfl⟩ := List.getElem_of_mem hq
    have h3 := h2 i hi
    unfold prE at h3
    split at h3
    · cases h3
    rename_i hn
    split at h3
    · cases h3
    split at h3
    · cases h3
    exact ⟨⟨by simpa using hn, cmd_fn _ _ (Nat.lt_succ_self _) h3⟩, by omega⟩
  exact ⟨fun q hq => (key q hq).1, h1, h20, fun q hq => (key q hq).2⟩
theorem parse_words {p : List Pr} (h : (faultR p [] false).2 = 0) (hsz : (p.map fun q => q.body.size).sum ≤ 600) {s : ByteArray} (hs : s.size ≤ 20000) (hl : Lay s.data.toList (wsPs p)) : parseR s = (p, 0, 0) := by
  obtain ⟨h1, h2, h3, h4⟩ := fault_fn h
  have hw := wsPs_len p
  obtain ⟨T, t1, t2⟩ := hl.toksR hs (by omega)
  rw [parseR, t1, if_neg (by simp)]
  exact parseL_back h1 h h2 t2
theorem parse_fmt {p : List Pr} (h : (faultR p [] false).2 = 0) (hsz : (p.map fun q => q.body.size).sum ≤ 600) (hs : (fmPs p).size ≤ 20000) : parseR (fmPs p) = (p, 0, 0) :=
  parse_words h hsz hs (put_prs p (fault_fn h).1).all
end Go.AM
namespace Go.AM
open Go Go.Proofs
theorem fewL_sum : ∀ (p : List Pr) (m : Int) (k : Int), 0 ≤ k → fewL p m = some k → -1 ≤ m → (((p.map fun q => q.body.size).sum : Nat) : Int) ≤ m - k
  | [], m, k, hk, h, hm => by
    rw [fewL] at h
    injection h with h
    simp
    omega
  | q :: r, m, k, hk, h, hm => by
    rw [fewL] at h
    by_cases h0 : 0 ≤ m
    · rw [if_pos h0] at h
      by_cases h1 : 60 < q.name.size
      · rw [if_pos h1] at h; cases h
      · rw [if_neg h1] at h
        have h2 := Cm.left_le _ q.body (Nat.lt_succ_self _) m h0
        have h4 : 0 ≤ q.body.left m := by
          rcases Int.lt_or_le (q.body.left m) 0 with h5 | h5
          · rw [fewL_stop (by omega)] at h
            injection h with h
            omega
          · exact h5
        have h3 := fewL_sum r (q.body.left m) k hk h (by omega)
        have h5 := h2.2 h4
        rw [List.map_cons, List.sum_cons]
        omega
    · rw [if_neg h0] at h
      injection h with h
      omega
theorem few_sum {p : List Pr} (h : fewB p = true) : (p.map fun q => q.body.size).sum ≤ 600 := by
  unfold fewB fewF at h
  split at h
  · cases h
  · rename_i m hm
    simp only [Bool.and_eq_true, decide_eq_true_eq] at h
    have := fewL_sum p 200 m h.1 hm (by omega)
    omega
theorem fmtR_err {p : List Pr} : (fmtR p).2 = (faultR p [] false).2 := by
  unfold fmtR
  split
  · rfl
  · rename_i h; exact (Decidable.not_not.1 h).symm
theorem fmtR_txt {p : List Pr} (h : (faultR p [] false).2 = 0) : (fmtR p).1 = fmPs p := by
  unfold fmtR
  rw [h, if_neg (by simp)]
theorem fmtR_size (p : List Pr) : (fmtR p).1.size ≤ 3000000 := by
  unfold fmtR
  split
  · show 0 ≤ _; omega
  · rename_i h
    obtain ⟨h1, h2⟩ := fault_fm (Decidable.not_not.1 h)
    have := fmPs_size p h2
    simp only
    omega
set_option maxRecDepth 100000 in
theorem lawFormat_c (p : List Pr) (hb : PrsBig p) (tok : Nat → Bool) (nt : Nat) : DCall Tryz.prog 3 [prsAv p] tok nt (B true) tok nt := by
  intro box nb
  have hfw := few_c p hb.len fun q hq => (hb.big q hq).2
  by_cases h1 : fewB p = true
  · have hok := few_prs h1 fun q hq => (hb.big q hq).2
    rw [h1] at hfw
    have e1 := format_c p hok
    have e2 := format46_c p hok
    have hfe := fmtR_err (p := p)
    have hfz := fmtR_size p
    by_cases h2 : (faultR p [] false).2 = 0
    · rw [h2] at hfe
      have hft := fmtR_txt h2
      have hsm := same_c p hok.len hok.bd
      by_cases h3 : (fmPs p).size ≤ 20000
      · have hpc := parse_c (fmPs p) (by omega)
        rw [parse_fmt h2 (few_sum h1) h3] at hpc
        rw [hfe, hft] at e1 e2
        generalize fmPs p = T at *
        have h3' : ¬ (20000 : Int) < T.size := by omega
        have hv : (T.toList == T.toList) = true := by simp
        refine sB Tryz.func3 Tryz.ntmps3 ?_
        intro hbox htok
        simp only at hbox htok
        apply AL.start
        try (simp)
        repeat (first | (refine sR ?_; simp) | (refine sC ?_; simp) | (refine sX ?_; simp only [AU, ↓reduceIte]))
        refine Stop.of_d (awake_c _ _) ?_
        simp
        try (simp)
        repeat (first | (refine sR ?_; simp) | (refine sC ?_; simp) | (refine sX ?_; simp only [AU, ↓reduceIte]))
        refine Stop.of_d (hfw _ _) ?_
        simp
        try (simp)
        repeat (first | (refine sR ?_; simp) | (refine sC ?_; simp) | (refine sX ?_; simp only [AU, ↓reduceIte]))
        refine Stop.of_d (e1 _ _) ?_
        simp
        try (simp)
        repeat (first | (refine sR ?_; simp) | (refine sC ?_; simp) | (refine sX ?_; simp only [AU, ↓reduceIte]))
        refine Stop.of_d (e2 _ _) ?_
        simp
        try (simp [hv, h3'])
        repeat (first | (refine sR ?_; simp [hv, h3']) | (refine sC ?_; simp [hv, h3']) | (refine sX ?_; simp only [AU, ↓reduceIte]))
        refine Stop.of_d (hpc _ _) ?_
        simp
        try (simp)
        repeat (first | (refine sR ?_; simp) | (refine sC ?_; simp) | (refine sX ?_; simp only [AU, ↓reduceIte]))
        refine Stop.of_d (hsm _ _) ?_
        simp
        try (simp)
        repeat (first | (refine sR ?_; simp) | (refine sC ?_; simp) | (refine sX ?_; simp only [AU, ↓reduceIte]))
        refine sT ?_
        try simp only [AU]
        refine ⟨by simp, sF hbox htok (fun _ h => h) (Nat.le_refl _) ?_⟩
        simp [packA]
      · rw [hfe, hft] at e1 e2
        generalize fmPs p = T at *
        have h3' : (20000 : Int) < T.size := by omega
        have hv : (T.toList == T.toList) = true := by simp
        refine sB Tryz.func3 Tryz.ntmps3 ?_
        intro hbox htok
        simp only at hbox htok
        apply AL.start
        try (simp)
        repeat (first | (refine sR ?_; simp) | (refine sC ?_; simp) | (refine sX ?_; simp only [AU, ↓reduceIte]))
        refine Stop.of_d (awake_c _ _) ?_
        simp
        try (simp)
        repeat (first | (refine sR ?_; simp) | (refine sC ?_; simp) | (refine sX ?_; simp only [AU, ↓reduceIte]))
        refine Stop.of_d (hfw _ _) ?_
        simp
        try (simp)
        repeat (first | (refine sR ?_; simp) | (refine sC ?_; simp) | (refine sX ?_; simp only [AU, ↓reduceIte]))
        refine Stop.of_d (e1 _ _) ?_
        simp
        try (simp)
        repeat (first | (refine sR ?_; simp) | (refine sC ?_; simp) | (refine sX ?_; simp only [AU, ↓reduceIte]))
        refine Stop.of_d (e2 _ _) ?_
        simp
        try (simp [hv, h3'])
        repeat (first | (refine sR ?_; simp [hv, h3']) | (refine sC ?_; simp [hv, h3']) | (refine sX ?_; simp only [AU, ↓reduceIte]))
        refine sT ?_
        try simp only [AU]
        refine ⟨by simp, sF hbox htok (fun _ h => h) (Nat.le_refl _) ?_⟩
        simp [packA, hv]
    · rw [← hfe] at h2
      generalize fmtR p = F at *
      have hv : (F.1.toList == F.1.toList) = true := by simp
      have h2' : (F.2 == 0) = false := by simpa using h2
      have h2n : (F.2 != 0) = true := by simpa using h2
      refine sB Tryz.func3 Tryz.ntmps3 ?_
      intro hbox htok
      simp only at hbox htok
      apply AL.start
      try (simp)
      repeat (first | (refine sR ?_; simp) | (refine sC ?_; simp) | (refine sX ?_; simp only [AU, ↓reduceIte]))
      refine Stop.of_d (awake_c _ _) ?_
      simp
      try (simp)
      repeat (first | (refine sR ?_; simp) | (refine sC ?_; simp) | (refine sX ?_; simp only [AU, ↓reduceIte]))
      refine Stop.of_d (hfw _ _) ?_
      simp
      try (simp)
      repeat (first | (refine sR ?_; simp) | (refine sC ?_; simp) | (refine sX ?_; simp only [AU, ↓reduceIte]))
      refine Stop.of_d (e1 _ _) ?_
      simp
      try (simp)
      repeat (first | (refine sR ?_; simp) | (refine sC ?_; simp) | (refine sX ?_; simp only [AU, ↓reduceIte]))
      refine Stop.of_d (e2 _ _) ?_
      simp
      try (simp [hv, h2, h2', h2n])
      repeat (first | (refine sR ?_; simp [hv, h2, h2', h2n]) | (refine sC ?_; simp [hv, h2, h2', h2n]) | (refine sX ?_; simp only [AU, ↓reduceIte]))
      refine sT ?_
      try simp only [AU]
      refine ⟨by simp, sF hbox htok (fun _ h => h) (Nat.le_refl _) ?_⟩
      simp [packA, hv]
  · have h1' : fewB p = false := by simpa using h1
    rw [h1'] at hfw
    refine sB Tryz.func3 Tryz.ntmps3 ?_
    intro hbox htok
    simp only at hbox htok
    apply AL.start
    try (simp)
    repeat (first | (refine sR ?_; simp) | (refine sC ?_; simp) | (refine sX ?_; simp only [AU, ↓reduceIte]))
    refine Stop.of_d (awake_c _ _) ?_
    simp
    try (simp)
    repeat (first | (refine sR ?_; simp) | (refine sC ?_; simp) | (refine sX ?_; simp only [AU, ↓reduceIte]))
    refine Stop.of_d (hfw _ _) ?_
    simp
    try (simp)
    repeat (first | (refine sR ?_; simp) | (refine sC ?_; simp) | (refine sX ?_; simp only [AU, ↓reduceIte]))
    refine Stop.of_d (awake_c _ _) ?_
    simp
    try (simp)
    repeat (first | (refine sR ?_; simp) | (refine sC ?_; simp) | (refine sX ?_; simp only [AU, ↓reduceIte]))
    refine sT ?_
    try simp only [AU]
    refine ⟨by simp, sF hbox htok (fun _ h => h) (Nat.le_refl _) ?_⟩
    simp [packA]
end Go.AM
namespace Go.AM
open Go Go.Proofs Go.Shelf
def kd14 : List Int := [1, 1, 2, 2, 3, 4, 5, 6, 7, 8, 9, 10, 10, 1]
def kd46 (n : Nat) : Int := kd14.getD (n % 14) 0
def kdM (rs : List ByteArray) (pr lev : Nat) (wi : Bool) (n : Nat) : Int :=
  if (lev ≤ 1 ∧ 2 ≤ kd46 n ∧ kd46 n ≤ 7) ∨ (wi = true ∧ kd46 n = 2) ∨ (kd46 n = 10 ∧ pr = 0) ∨ (kd46 n = 1 ∧ rs.length = 0) then 8 else kd46 n
def ctM (k : Int) (n : Nat) : Nat := if k = 2 then 2 + n / 14 % 2 else if k = 3 then 2 else if k = 4 then 3 else if k = 5 ∨ k = 6 ∨ k = 7 then 1 else 0
def sP : ByteArray := ⟨#[112]⟩
def pNm (j : Nat) : ByteArray := sP ++ digR (j : Int)
def nmM (rs : List ByteArray) (pr : Nat) (k : Int) (n : Nat) : ByteArray := if k = 1 then rs.getD (n / 14 % rs.length) ⟨#[]⟩ else if k = 10 then pNm (n / 14 % pr) else ⟨#[]⟩
def nuM (k : Int) (n : Nat) : Int := if k = 6 then ((1 + n / 14 % 3 : Nat) : Int) else 0
def mkF (F : List Int → Cm × List Int) : Nat → List Int → List Cm → List Cm × List Int
  | 0, cs, acc => (acc, cs)
  | c + 1, cs, acc => mkF F c (F cs).2 (acc ++ [(F cs).1])
def hd46 (cs : List Int) : Nat := (cs.headD 0).toNat
def mk46 (rs : List ByteArray) (pr : Nat) : Nat → Bool → List Int → Cm × List Int
  | 0, _, cs => (.mk 8 ⟨#[]⟩ 0 [], cs)
  | lev + 1, wi, cs =>
    (.mk (kdM rs pr (lev + 1) wi (hd46 cs)) (nmM rs pr (kdM rs pr (lev + 1) wi (hd46 cs)) (hd46 cs)) (nuM (kdM rs pr (lev + 1) wi (hd46 cs)) (hd46 cs))
      (mkF (mk46 rs pr lev (kdM rs pr (lev + 1) wi (hd46 cs) == 2)) (ctM (kdM rs pr (lev + 1) wi (hd46 cs)) (hd46 cs)) cs.tail []).1,
     (mkF (mk46 rs pr lev (kdM rs pr (lev + 1) wi (hd46 cs) == 2)) (ctM (kdM rs pr (lev + 1) wi (hd46 cs)) (hd46 cs)) cs.tail []).2)
theorem mk46_succ (rs : List ByteArray) (pr lev : Nat) (wi : Bool) (cs : List Int) {n : Nat} {k : Int} (hn : n = hd46 cs) (hk : k = kdM rs pr (lev + 1) wi n) :
    mk46 rs pr (lev + 1) wi cs = (.mk k (nmM rs pr k n) (nuM k n) (mkF (mk46 rs pr lev (k == 2)) (ctM k n) cs.tail []).1, (mkF (mk46 rs pr lev (k == 2)) (ctM k n) cs.tail []).2) := by
  subst hn hk
  rw [mk46]
def md46 (codes : List (List Int)) (rs : List ByteArray) (m : Nat) : List Pr := (List.range m).map fun i => ⟨pNm i, (mk46 rs i 4 false (codes.getD i [])).1⟩
def mdN (codes : List (List Int)) : Nat := max 1 (min 4 codes.length)
theorem md46_len (codes : List (List Int)) (rs : List ByteArray) (m : Nat) : (md46 codes rs m).length = m := by simp [md46]
theorem md46_get {codes : List (List Int)} {rs : List ByteArray} {m i : Nat} (h : i < (md46 codes rs m).length) : (md46 codes rs m)[i] = ⟨pNm i, (mk46 rs i 4 false (codes.getD i [])).1⟩ := by simp [md46]
theorem md46_take (codes : List (List Int)) (rs : List ByteArray) {m k : Nat} (h : k ≤ m) : (md46 codes rs m).take k = md46 codes rs k := by
  rw [md46, ← List.map_take, List.take_range, Nat.min_eq_left h]
  rfl
theorem md46_succ (codes : List (List Int)) (rs : List ByteArray) (m : Nat) : md46 codes rs (m + 1) = md46 codes rs m ++ [⟨pNm m, (mk46 rs m 4 false (codes.getD m [])).1⟩] := by
  rw [md46, List.range_succ, List.map_append]
  rfl
inductive Gd46 (rs : List ByteArray) (pr : Nat) : Nat → Bool → Cm → Prop
  | mk {lev : Nat} {wi : Bool} {c : Cm} (ok : okB c = true) (k2 : c.kind = 2 → wi = false) (n1 : c.kind = 1 → c.name ∈ rs) (n10 : c.kind = 10 → ∃ j, j < pr ∧ c.name = pNm j) (n6 : c.kind = 6 → 1 ≤ c.num ∧ c.num ≤ 9)
      (len : c.kids.length ≤ 3) (kid : ∀ x ∈ c.kids, Gd46 rs pr lev (c.kind == 2) x) : Gd46 rs pr (lev + 1) wi c
theorem mkF_len (F : List Int → Cm × List Int) : ∀ (n : Nat) (cs : List Int) (acc : List Cm), (mkF F n cs acc).1.length = acc.length + n
  | 0, cs, acc => rfl
  | n + 1, cs, acc => by rw [mkF, mkF_len F n, List.length_append, List.length_singleton]; omega
theorem mkF_all {F : List Int → Cm × List Int} {Q : Cm → Prop} (hF : ∀ cs, Q (F cs).1) : ∀ (n : Nat) (cs : List Int) (acc : List Cm), (∀ x ∈ acc, Q x) → ∀ x ∈ (mkF F n cs acc).1, Q x
  | 0, cs, acc, h => h
  | n + 1, cs, acc, h => by
    rw [mkF]
    refine mkF_all hF n _ _ fun x hx => ?_
    rcases List.mem_append.1 hx with hx | hx
    · exact h x hx
    · simp at hx; rw [hx]; exact hF cs
theorem kd46_rng (n : Nat) : 1 ≤ kd46 n ∧ kd46 n ≤ 10 := by
  have : ∀ m, m < 14 → 1 ≤ kd14.getD m 0 ∧ kd14.getD m 0 ≤ 10 := by decide
  exact this _ (Nat.mod_lt _ (by decide))
theorem kdM_rng (rs : List ByteArray) (pr lev : Nat) (wi : Bool) (n : Nat) : 1 ≤ kdM rs pr lev wi n ∧ kdM rs pr lev wi n ≤ 10 := by
  unfold kdM
  have := kd46_rng n
  split <;> omega
theorem kdM_low {rs : List ByteArray} {pr lev : Nat} {wi : Bool} {n : Nat} (h : lev ≤ 1) : ¬ (2 ≤ kdM rs pr lev wi n ∧ kdM rs pr lev wi n ≤ 7) := by
  unfold kdM
  split
  · omega
  · rename_i hn; intro hh; exact hn (.inl ⟨h, hh⟩)
theorem kdM_in {rs : List ByteArray} {pr lev : Nat} {wi : Bool} {n : Nat} : (kdM rs pr lev wi n = 2 → wi = false) ∧ (kdM rs pr lev wi n = 10 → pr ≠ 0) ∧ (kdM rs pr lev wi n = 1 → rs.length ≠ 0) := by
  unfold kdM
  split
  · exact ⟨fun h => absurd h (by decide), fun h => absurd h (by decide), fun h => absurd h (by decide)⟩
  · rename_i hn
    refine ⟨fun h => ?_, fun h e => hn (.inr (.inr (.inl ⟨h, e⟩))), fun h e => hn (.inr (.inr (.inr ⟨h, e⟩)))⟩
    cases wi with
    | false => rfl
    | true => exact absurd (.inr (.inl ⟨rfl, h⟩)) hn
theorem okB_of {c : Cm} (h : 1 ≤ c.kind ∧ c.kind ≤ 10) (h2 : c.kind = 2 → 2 ≤ c.kids.length ∧ ∀ x ∈ c.kids, x.kind ≠ 2) (h3 : c.kind = 3 → 2 ≤ c.kids.length) (h4 : c.kind = 4 → c.kids.length = 3) (h5 : c.kind = 5 ∨ c.kind = 6 ∨ c.kind = 7 → c.kids.length = 1)
    (h1 : c.kind = 1 ∨ c.kind = 8 ∨ c.kind = 9 ∨ c.kind = 10 → c.kids.length = 0) (hn : ¬ (c.kind = 1 ∨ c.kind = 10) → c.name = ⟨#[]⟩) (hm : c.kind ≠ 6 → c.num = 0) : okB c = true := by
  unfold okB
  simp only [Bool.and_eq_true, Bool.or_eq_true, decide_eq_true_eq]
  refine ⟨⟨?_, ?_⟩, ?_⟩
  · by_cases e2 : c.kind = 2
    · rw [if_pos e2]
      obtain ⟨a, b⟩ := h2 e2
      simpa using ⟨a, b⟩
    · rw [if_neg e2]
      by_cases e3 : c.kind = 3
      · rw [if_pos e3]; simpa using h3 e3
      · rw [if_neg e3]
        by_cases e4 : c.kind = 4
        · rw [if_pos e4]; simpa using h4 e4
        · rw [if_neg e4]
          by_cases e5 : c.kind = 5 ∨ c.kind = 6 ∨ c.kind = 7
          · rw [if_pos e5]; simpa using h5 e5
          · have e1 : c.kind = 1 ∨ c.kind = 8 ∨ c.kind = 9 ∨ c.kind = 10 := by omega
            rw [if_neg e5, if_pos e1]; simpa using h1 e1
  · by_cases e : c.kind = 1 ∨ c.kind = 10
    · exact .inl e
    · exact .inr (hn e)
  · by_cases e : c.kind = 6
    · exact .inl e
    · exact .inr (hm e)
theorem mk46_gd (rs : List ByteArray) (pr : Nat) : ∀ (lev : Nat) (wi : Bool) (cs : List Int), 1 ≤ lev → Gd46 rs pr lev wi (mk46 rs pr lev wi cs).1
  | 0, wi, cs, h => by omega
  | lev + 1, wi, cs, _ => by
    obtain ⟨n, hn⟩ : ∃ n, n = hd46 cs := ⟨_, rfl⟩
    obtain ⟨k, hk⟩ : ∃ k, k = kdM rs pr (lev + 1) wi n := ⟨_, rfl⟩
    rw [mk46_succ rs pr lev wi cs hn hk]
    have hr := kdM_rng rs pr (lev + 1) wi n
    have hlow := fun h => kdM_low (rs := rs) (pr := pr) (lev := lev + 1) (wi := wi) (n := n) h
    obtain ⟨i1, i2, i3⟩ := kdM_in (rs := rs) (pr := pr) (lev := lev + 1) (wi := wi) (n := n)
    rw [← hk] at hr hlow i1 i2 i3
    have hlen := mkF_len (mk46 rs pr lev (k == 2)) (ctM k n) cs.tail []
    have hm2 := Nat.mod_lt (n / 14) (show 0 < 2 by decide)
    have hm3 := Nat.mod_lt (n / 14) (show 0 < 3 by decide)
    have hct : (k = 2 → ctM k n = 2 + n / 14 % 2) ∧ (k = 3 → ctM k n = 2) ∧ (k = 4 → ctM k n = 3) ∧ (k = 5 ∨ k = 6 ∨ k = 7 → ctM k n = 1) ∧ (k = 1 ∨ 8 ≤ k → ctM k n = 0) := by
      unfold ctM
      refine ⟨fun h => by rw [if_pos h], fun h => by rw [if_neg (by omega), if_pos h], fun h => by rw [if_neg (by omega), if_neg (by omega), if_pos h], fun h => by rw [if_neg (by omega), if_neg (by omega), if_neg (by omega), if_pos h], fun h => by rw [if_neg (by omega), if_neg (by omega), if_neg (by omega), if_neg (by omega)]⟩
    obtain ⟨c2, c3, c4, c5, c1⟩ := hct
    have hall : ∀ x ∈ (mkF (mk46 rs pr lev (k == 2)) (ctM k n) cs.tail []).1, Gd46 rs pr lev (k == 2) x := by
      by_cases hl : lev = 0
      · have : ctM k n = 0 := by
          have := hlow (by omega)
          exact c1 (by omega)
        rw [this]
        intro x hx
        simp [mkF] at hx
      · exact mkF_all (fun cs => mk46_gd rs pr lev _ cs (by omega)) _ _ _ (by simp)
    generalize mkF (mk46 rs pr lev (k == 2)) (ctM k n) cs.tail [] = R at *
    simp only [List.length_nil, Nat.zero_add] at hlen
    have hnm : ¬ (k = 1 ∨ k = 10) → nmM rs pr k n = ⟨#[]⟩ := fun h => by rw [nmM, if_neg (by omega), if_neg (by omega)]
    have hnu : k ≠ 6 → nuM k n = 0 := fun h => by rw [nuM, if_neg h]
    refine .mk ?_ i1 (fun h => ?_) (fun h => ?_) (fun h => ?_) ?_ hall
    · refine okB_of hr (fun h2 => ⟨by simp only [Cm.kids, Cm.kind] at h2 ⊢; have := c2 h2; omega, fun x hx e => ?_⟩) (fun h3 => by simp only [Cm.kids, Cm.kind] at h3 ⊢; have := c3 h3; omega) (fun h4 => by simp only [Cm.kids, Cm.kind] at h4 ⊢; have := c4 h4; omega) (fun h5 => by simp only [Cm.kids, Cm.kind] at h5 ⊢; have := c5 h5; omega) (fun h1 => by simp only [Cm.kids, Cm.kind] at h1 ⊢; have := c1 (by omega); omega) hnm hnu
      simp only [Cm.kids, Cm.kind] at h2 hx
      have := hall x hx
      rw [h2] at this
      cases this with
      | mk ok k2 => have := k2 e; simp at this
    · simp only [Cm.kind, Cm.name] at h ⊢
      have hl := i3 h
      rw [nmM, if_pos h]
      have : n / 14 % rs.length < rs.length := Nat.mod_lt _ (by omega)
      rw [List.getD_eq_getElem?_getD, List.getElem?_eq_getElem this]
      exact List.getElem_mem _
    · simp only [Cm.kind, Cm.name] at h ⊢
      have hl := i2 h
      rw [nmM, if_neg (by omega), if_pos h]
      exact ⟨_, Nat.mod_lt _ (by omega), rfl⟩
    · simp only [Cm.kind, Cm.num] at h ⊢
      rw [nuM, if_pos h]
      omega
    · simp only [Cm.kids]
      rw [hlen]
      by_cases h2 : k = 2
      · have := c2 h2; omega
      · by_cases h3 : k = 3
        · have := c3 h3; omega
        · by_cases h4 : k = 4
          · have := c4 h4; omega
          · by_cases h5 : k = 5 ∨ k = 6 ∨ k = 7
            · have := c5 h5; omega
            · have := c1 (by omega); omega
def szM : Nat → Nat
  | 0 => 0
  | n + 1 => 1 + 3 * szM n
theorem gd_size {rs : List ByteArray} {pr : Nat} : ∀ {lev : Nat} {wi : Bool} {c : Cm}, Gd46 rs pr lev wi c → c.size ≤ szM lev ∧ c.depth ≤ lev
  | lev + 1, wi, c, .mk _ _ _ _ _ len kid => by
    have key : ∀ l : List Cm, (∀ x ∈ l, Gd46 rs pr lev (c.kind == 2) x) → Cm.sizeL l ≤ l.length * szM lev ∧ Cm.depthL l ≤ lev := by
      intro l
      induction l with
      | nil => intro _; simp [Cm.sizeL, Cm.depthL]
      | cons x r ih =>
        intro h
        obtain ⟨a1, a2⟩ := gd_size (h x (by simp))
        obtain ⟨b1, b2⟩ := ih fun y hy => h y (by simp [hy])
        simp only [Cm.sizeL, Cm.depthL, List.length_cons, Nat.add_mul, Nat.one_mul]
        omega
    obtain ⟨h1, h2⟩ := key c.kids kid
    have h3 : c.kids.length * szM lev ≤ 3 * szM lev := Nat.mul_le_mul_right _ len
    rw [c.size_eq, c.depth_eq, szM]
    omega
theorem pNm_inj : ∀ i, i < 10 → ∀ j, j < 10 → pNm i = pNm j → i = j := by decide
theorem pNm_name : ∀ i, i < 10 → nameB (pNm i) = true := by decide
theorem placeR_at {p : List Pr} {s : ByteArray} {k : Nat} (h : k < p.length) (h1 : p[k].name = s) (h2 : ∀ j (hj : j < k), p[j].name ≠ s) : placeR p s = k := by
  have hp : hasP p s = true := by
    simp only [hasP, List.any_eq_true, decide_eq_true_eq]
    exact ⟨p[k], List.getElem_mem h, h1⟩
  rw [placeR, if_pos hp]
  have : p.findIdx (fun q => decide (q.name = s)) = k := (List.findIdx_eq h).2 ⟨by simp [h1], fun j hj => by simp [h2 j hj]⟩
  rw [this]
theorem placeR_md {codes : List (List Int)} {rs : List ByteArray} {m j : Nat} (hm : m ≤ 10) (hj : j < m) : placeR (md46 codes rs m) (pNm j) = j := by
  have hl := md46_len codes rs m
  refine placeR_at (by omega) (by rw [md46_get]) fun i hi => ?_
  rw [md46_get]
  intro e
  have := pNm_inj i (by omega) j (by omega) e
  omega
theorem gd_cmd {p : List Pr} {rs rs' : List ByteArray} {asked : Bool} {pr : Nat} (hp : ∀ j, j < pr → placeR p (pNm j) = j) (h10 : pr ≤ 10) (hn : ∀ r ∈ rs, nameB r = true) (hr : asked = true → ∀ r ∈ rs, r ∈ rs') :
    ∀ {lev : Nat} {wi : Bool} {c : Cm}, Gd46 rs pr lev wi c → cmdE p rs' asked pr c = 0
  | lev + 1, wi, c, .mk ok k2 n1 n10 n6 len kid => by
    have hk := cmdEL_none (l := c.kids) fun x hx => gd_cmd hp h10 hn hr (kid x hx)
    have ho : ownE p rs' asked pr c = 0 := by
      unfold ownE
      rw [ok, if_neg (by simp)]
      by_cases e1 : c.kind = 1
      · rw [if_pos e1, hn _ (n1 e1), if_neg (by simp)]
        have : (asked && !(memS rs' c.name)) = false := by
          cases asked with
          | false => rfl
          | true => rw [memS_iff.2 (hr rfl _ (n1 e1))]; rfl
        rw [this, if_neg (by simp)]
      · rw [if_neg e1]
        by_cases e2 : c.kind = 10
        · obtain ⟨j, hj, e⟩ := n10 e2
          rw [if_pos e2, e, pNm_name j (by omega), if_neg (by simp), hp j hj, if_neg (by omega), if_neg (by omega)]
        · rw [if_neg e2]
          by_cases e3 : c.kind = 6
          · rw [if_pos e3, if_pos (n6 e3)]
          · rw [if_neg e3]
    rw [cmdE_eq, ho, if_neg (by simp), hk]
theorem faultL_none {p : List Pr} {rs : List ByteArray} {asked : Bool} : ∀ {l : List Pr} {i : Nat}, (∀ j (hj : j < l.length), prE p rs asked (i + j) l[j] = 0) → faultL p rs asked l i = (-1, 0)
  | [], i, _ => by rw [faultL]
  | q :: r, i, h => by
    have h0 := h 0 (by simp)
    simp only [Nat.add_zero, List.getElem_cons_zero] at h0
    rw [faultL, h0, if_neg (by simp)]
    refine faultL_none fun j hj => ?_
    have := h (j + 1) (by simpa using hj)
    rw [show i + 1 + j = i + (j + 1) by omega]
    simpa using this
theorem md46_valid {codes : List (List Int)} {rs rs' : List ByteArray} {asked : Bool} {m : Nat} (h1 : 1 ≤ m) (h4 : m ≤ 10) (hn : ∀ r ∈ rs, nameB r = true) (hr : asked = true → ∀ r ∈ rs, r ∈ rs') : faultR (md46 codes rs m) rs' asked = (-1, 0) := by
  have hl := md46_len codes rs m
  rw [faultR, if_neg (by omega), if_neg (by omega)]
  refine faultL_none fun j hj => ?_
  have hg := mk46_gd rs j 4 false (codes.getD j []) (by decide)
  obtain ⟨g1, g2⟩ := gd_size hg
  have hc := gd_cmd (p := md46 codes rs m) (rs' := rs') (asked := asked) (fun i hi => placeR_md h4 (by omega)) (by omega) hn hr hg
  have hz : szM 4 = 40 := rfl
  rw [Nat.zero_add, md46_get]
  unfold prE
  simp only
  rw [pNm_name j (by omega), if_neg (by simp), placeR_md h4 (by omega), if_neg (by omega), if_neg (by omega)]
  exact hc
end Go.AM
namespace Go.AM
open Go Go.Proofs Go.Shelf
theorem placeR_spec {p : List Pr} {s : ByteArray} {j : Nat} (h : placeR p s = j) : ∃ hj : j < p.length, p[j].name = s ∧ ∀ i (hi : i < j), p[i].name ≠ s := by
  unfold placeR at h
  split at h
  · rename_i hp
    have he : p.findIdx (fun q => decide (q.name = s)) = j := by omega
    have hlt : p.findIdx (fun q => decide (q.name = s)) < p.length := List.findIdx_lt_length_of_exists (by simpa [hasP] using hp)
    rw [he] at hlt
    obtain ⟨h1, h2⟩ := (List.findIdx_eq hlt).1 he
    exact ⟨hlt, by simpa using h1, fun i hi => by simpa using h2 i hi⟩
  · omega
theorem placeR_take {p : List Pr} {s : ByteArray} {j n : Nat} (h : placeR p s = j) (hn : j < n) : placeR (p.take n) s = j := by
  obtain ⟨hj, h1, h2⟩ := placeR_spec h
  exact placeR_at (by rw [List.length_take]; omega) (by rw [List.getElem_take]; exact h1) fun i hi => by rw [List.getElem_take]; exact h2 i hi
theorem expC_take {p : List Pr} {kn : List Xp} {at' n : Nat} (hn : at' ≤ n) : ∀ (f : Nat) (c : Cm), c.size < f → CallsOk p at' c → expC (p.take n) kn c = expC p kn c
  | 0, c, h, _ => absurd h (Nat.not_lt_zero _)
  | f + 1, c, hf, hc => by
    have key : ∀ (sq : Bool) (l : List Cm) (a : Xa), (∀ x ∈ l, expC (p.take n) kn x = expC p kn x) → expL (p.take n) kn sq l a = expL p kn sq l a := by
      intro sq l
      induction l with
      | nil => intro a _; rw [expL, expL]
      | cons x r ih =>
        intro a hx
        rw [expL, expL, hx x (by simp), ih _ fun y hy => hx y (by simp [hy])]
    rw [expC_eq, expC_eq, key (c.kind == 2) c.kids ⟨[], 1⟩ fun x hx => expC_take hn f x (by have := Cm.kid_size hx; omega) (hc.kid x hx)]
    by_cases h10 : c.kind = 10
    · obtain ⟨h1, h2⟩ := hc.call h10
      obtain ⟨j, hj⟩ := Int.eq_ofNat_of_zero_le h1
      rw [if_pos h10, if_pos h10, placeR_take hj (by omega), hj]
    · rw [if_neg h10, if_neg h10]
theorem knR_take {p : List Pr} (hv : ValidP p) {n : Nat} (hn : n ≤ p.length) : ∀ m, m ≤ n → knR (p.take n) m = knR p m
  | 0, _ => rfl
  | m + 1, h => by
    have ih := knR_take hv hn m (by omega)
    have hl : m < (p.take n).length := by rw [List.length_take]; omega
    rw [knR_succ hl, knR_succ (by omega), ih, List.getElem_take]
    unfold knStep
    rw [expC_take (n := n) (at' := m) (by omega) _ _ (Nat.lt_succ_self _) (hv m (by omega))]
theorem uC_take {p : List Pr} {kn : List (List ByteArray)} {at' n : Nat} (hn : at' ≤ n) : ∀ (f : Nat) (c : Cm), c.size < f → CallsOk p at' c → uC (p.take n) kn c = uC p kn c
  | 0, c, h, _ => absurd h (Nat.not_lt_zero _)
  | f + 1, c, hf, hc => by
    have key : ∀ l : List Cm, (∀ x ∈ l, uC (p.take n) kn x = uC p kn x) → uL (p.take n) kn l = uL p kn l := by
      intro l
      induction l with
      | nil => intro _; rw [uL, uL]
      | cons x r ih =>
        intro hx
        rw [uL, uL, hx x (by simp), ih fun y hy => hx y (by simp [hy])]
    rw [uC_eq, uC_eq, key c.kids fun x hx => uC_take hn f x (by have := Cm.kid_size hx; omega) (hc.kid x hx)]
    congr 1
    unfold uOwn
    split
    · rfl
    · split
      · rename_i h10
        obtain ⟨h1, h2⟩ := hc.call h10
        obtain ⟨j, hj⟩ := Int.eq_ofNat_of_zero_le h1
        rw [placeR_take hj (by omega), hj]
      · rfl
theorem knU_take {p : List Pr} (hv : ValidP p) {n : Nat} (hn : n ≤ p.length) : ∀ m, m ≤ n → knU (p.take n) m = knU p m
  | 0, _ => rfl
  | m + 1, h => by
    have ih := knU_take hv hn m (by omega)
    have hl : m < (p.take n).length := by rw [List.length_take]; omega
    rw [knU_succ hl, knU_succ (by omega), ih, List.getElem_take, uC_take (n := n) (at' := m) (by omega) _ _ (Nat.lt_succ_self _) (hv m (by omega))]
theorem expand_at {p : List Pr} {s : ByteArray} {k : Nat} (h : (faultR p [] false).2 = 0) (hk : placeR p s = k) : expandR p s = if 200 < ((knR p (k + 1)).getD k ⟨zC, 0⟩).n then (zC, 3) else (((knR p (k + 1)).getD k ⟨zC, 0⟩).b, 0) := by
  unfold expandR
  rw [h, hk, if_neg (by simp), if_neg (by omega), Int.toNat_natCast]
theorem uses_at {p : List Pr} {rs : List ByteArray} {s : ByteArray} {k : Nat} (h : (faultR p rs true).2 = 0) (hk : placeR p s = k) : usesR p rs s = ((knU p (k + 1)).getD k [], 0) := by
  unfold usesR
  rw [h, hk, if_neg (by simp), if_neg (by omega), Int.toNat_natCast]
theorem expand_later {p : List Pr} {s : ByteArray} {k n : Nat} (h : (faultR p [] false).2 = 0) (hq : (faultR (p.take n) [] false).2 = 0) (hk : placeR p s = k) (hn : k < n) (hn2 : n ≤ p.length) : expandR (p.take n) s = expandR p s := by
  rw [expand_at h hk, expand_at hq (placeR_take hk hn), knR_take (fault_valid h).1 hn2 (k + 1) (by omega)]
theorem uses_later {p : List Pr} {rs : List ByteArray} {s : ByteArray} {k n : Nat} (h : (faultR p rs true).2 = 0) (hq : (faultR (p.take n) rs true).2 = 0) (hk : placeR p s = k) (hn : k < n) (hn2 : n ≤ p.length) : usesR (p.take n) rs s = usesR p rs s := by
  rw [uses_at h hk, uses_at hq (placeR_take hk hn), knU_take (fault_valid h).1 hn2 (k + 1) (by omega)]
theorem expand_err {p : List Pr} {s : ByteArray} {k : Nat} (h : (faultR p [] false).2 = 0) (hk : placeR p s = k) : (expandR p s).2 = 0 ∨ (expandR p s).2 = 3 := by
  unfold expandR
  rw [h, hk, if_neg (by simp), if_neg (by omega)]
  split
  · exact .inr rfl
  · exact .inl rfl
theorem uses_err {p : List Pr} {rs : List ByteArray} {s : ByteArray} {k : Nat} (h : (faultR p rs true).2 = 0) (hk : placeR p s = k) : (usesR p rs s).2 = 0 := by
  unfold usesR
  rw [h, hk, if_neg (by simp), if_neg (by omega)]
inductive CFlat : Cm → Prop
  | mk {c : Cm} (h10 : c.kind ≠ 10) (h2 : c.kind = 2 → ∀ x ∈ c.kids, x.kind ≠ 2) (hk : ∀ x ∈ c.kids, CFlat x) : CFlat c
theorem CFlat.kid {c : Cm} (h : CFlat c) : ∀ x ∈ c.kids, CFlat x := by cases h; assumption
end Go.AM
namespace Go.AM
open Go Go.Proofs
end Go.AM
namespace Go.AM
open Go Go.Proofs
end Go.AM
namespace Go.AM
open Go Go.Proofs
theorem usesR_len (p : List Pr) (rs : List ByteArray) (s : ByteArray) : (usesR p rs s).1.length ≤ rs.length := by
  unfold usesR
  split
  · simp
  · split
    · simp
    · rename_i h1 h2
      obtain ⟨hv, h20, h1p, hpe⟩ := fault_valid (Decidable.not_not.1 h1)
      have hir := valid_rules hpe
      have hrg := placeR_lt p s
      have hk := knU_ok hir ((placeR p s).toNat + 1) (by omega)
      have hl := knU_len (p := p) (n := (placeR p s).toNat + 1) (by omega)
      refine hk.len _ ?_
      rw [List.getD_eq_getElem?_getD, List.getElem?_eq_getElem (by omega)]
      exact List.getElem_mem _
end Go.AM
namespace Go.AM
open Go Go.Proofs
abbrev u8d (n : Int) : D := .raw (.int .u8 n)
abbrev byE (e : Nat) (l : List Int) : D := .sl e (l.map fun n => [u8d n])
def B8s (l : List Int) : Prop := ∀ c ∈ l, 0 ≤ c ∧ c < 256
abbrev mkRow (e : Nat) (cs : List Int) (rs : List ByteArray) (pr : Nat) : List AV := [.d (byE e cs), .d (strs rs), I pr]
theorem hd46_rng {cs : List Int} (h : B8s cs) : hd46 cs < 256 := by
  cases cs with
  | nil => decide
  | cons c r =>
    have := h c (by simp)
    show c.toNat < 256
    omega
theorem B8s.tail {cs : List Int} (h : B8s cs) : B8s cs.tail := fun c hc => h c (List.mem_of_mem_tail hc)
theorem next46_c (e : Nat) (cs : List Int) (he : cs = [] ∨ e = 1) (hc : B8s cs) (hl : cs.length ≤ 200000000000000) (rs : List ByteArray) (pr ks : Nat) (box : Nat → Option (List (List AV))) (hk : box ks = some [mkRow e cs rs pr]) (nb : Nat) (tok : Nat → Bool) (nt : Nat) :
    ACalls Tryz.prog 96 [.ptr ks 0 0] ⟨box, nb, tok, nt⟩ (QRd (I (hd46 cs)) (mkRow e cs.tail rs pr) ks box nb tok nt) := by
  cases cs with
  | nil =>
    refine sB Tryz.func96 Tryz.ntmps96 ?_
    intro hbox htok
    simp only at hbox htok
    apply AL.start
    have kn := key_lt hbox hk
    try (simp [lb_out kn, hk, upd_lb_out kn, upd_same])
    repeat (first | (refine sR ?_; simp [lb_out kn, hk, upd_lb_out kn, upd_same]) | (refine sC ?_; simp [lb_out kn, hk, upd_lb_out kn, upd_same]) | (refine sX ?_; simp only [AU, ↓reduceIte]))
    refine sT ?_
    try simp only [AU]
    refine ⟨by simp, (Fin.gen (av := I 0) (tok' := tok) (nt' := nt) (by simp [resAs, resA, lk]; rfl) hbox (Nat.le_refl _) (Nat.le_refl _) (fun t ht => ⟨ht, .inl rfl⟩) (fun k rows _ h => .inl h) (by simp [packA])).mono fun v m hq => ?_⟩
    exact ⟨hq.1, hq.2.trans (congrArg (fun b => (⟨b, nb, tok, nt⟩ : AMem)) (upd_keep hk).symm)⟩
  | cons c r =>
    have e1 : e = 1 := he.resolve_left (by simp)
    subst e1
    obtain ⟨c0, c1⟩ := hc c (by simp)
    have hw : IntKind.i64.wrap c = c := wrap_in (by omega) (by omega)
    have hh : ((hd46 (c :: r) : Nat) : Int) = c := by show ((c.toNat : Nat) : Int) = c; omega
    have hln : ((r.length : Int) + 1 == 0) = false := by rw [beq_eq_false_iff_ne]; omega
    have hln2 : ¬ ((r.length : Int) + 1 = 0) := by omega
    refine sB Tryz.func96 Tryz.ntmps96 ?_
    intro hbox htok
    simp only at hbox htok
    apply AL.start
    have kn := key_lt hbox hk
    try (simp [lb_out kn, hk, upd_lb_out kn, upd_same, hw, hln, hln2])
    repeat (first | (refine sR ?_; simp [lb_out kn, hk, upd_lb_out kn, upd_same, hw, hln, hln2]) | (refine sC ?_; simp [lb_out kn, hk, upd_lb_out kn, upd_same, hw, hln, hln2]) | (refine sX ?_; simp only [AU, ↓reduceIte]))
    refine sT ?_
    try simp only [AU]
    refine ⟨by simp, (Fin.gen (av := I c) (tok' := tok) (nt' := nt) (by simp [resAs, resA, lk]; rfl) (by rw [← upd_lb_out kn, hbox]) (Nat.le_refl _) (Nat.le_refl _) (fun t ht => ⟨ht, .inl rfl⟩) (outG (by simp)) (by simp [packA])).mono fun v m hq => ?_⟩
    have e2 : List.take r.length (r.map fun n => [u8d n]) = r.map fun n => [u8d n] := List.take_of_length_le (by simp)
    rw [e2] at hq
    exact ⟨by rw [hh]; exact hq.1, hq.2⟩
end Go.AM
