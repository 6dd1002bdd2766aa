/-
  Parts of the proof, as merged from many texts: a machine over data, what the functions compute, plain laws.
-/
import Derived.Test.YtedpnmlgbjcpcaaGreatDoorMQ9
set_option linter.unusedSimpArgs false
set_option linter.unusedVariables false
namespace Go.AM
open Go Go.Proofs
def stMk1 (cs : List Int) (rs : List ByteArray) (pr e lev : Nat) (wi : Bool) (n : Nat) (k : Int) (ks nb : Nat) (box : Nat → Option (List (List AV))) (tok : Nat → Bool) (nt : Nat) : AState :=
  ⟨tl [(7, I n), (8, I k), (6, .ptr (nb + 6) 0 0), (0, .ptr ks 0 0), (1, I lev), (2, B wi)], lb nb (upd box ks (some [mkRow e cs.tail rs pr])) [(6, [[I 0, Sb ⟨#[]⟩, I 0, nilS]])], tok, nt⟩
def stMk2 (cs : List Int) (rs : List ByteArray) (pr e lev : Nat) (wi : Bool) (n : Nat) (k : Int) (nm : ByteArray) (nu : Int) (ks nb : Nat) (box : Nat → Option (List (List AV))) (tok : Nat → Bool) (nt : Nat) : AState :=
  ⟨tl [(7, I n), (8, I k), (9, .ptr (nb + 9) 0 0), (6, .ptr (nb + 6) 0 0), (0, .ptr ks 0 0), (1, I lev), (2, B wi)], lb nb (upd box ks (some [mkRow e cs.tail rs pr])) [(9, [[I k, Sb nm, I nu, nilS]]), (6, [[I 0, Sb ⟨#[]⟩, I 0, nilS]])], tok, nt⟩
structure AccMk where
  i : Nat
  cs : List Int
  l : List Cm
  own : Own
  tok : Nat → Bool
  nt : Nat
structure MkInv (F : List Int → Cm × List Int) (ct : Nat) (R : List Cm × List Int) (e : Nat) (mtok : Nat → Bool) (nt0 : Nat) (x : AccMk) : Prop where
  i : x.i ≤ ct
  q : mkF F (ct - x.i) x.cs x.l = R
  he : x.cs = [] ∨ e = 1
  hc : B8s x.cs
  hl : x.cs.length ≤ 200000000000000
  ln : x.l.length = x.i
  k : TK mtok nt0 x.tok x.nt [x.own]
theorem MkInv.of {F : List Int → Cm × List Int} {ct : Nat} {R : List Cm × List Int} {e : Nat} {mtok : Nat → Bool} {nt0 : Nat} {i : Nat} {cs : List Int} {l : List Cm} {own : Own} {tok : Nat → Bool} {nt : Nat} (h1 : i ≤ ct) (h2 : mkF F (ct - i) cs l = R) (h3 : cs = [] ∨ e = 1) (h4 : B8s cs) (h5 : cs.length ≤ 200000000000000) (h6 : l.length = i) (h7 : TK mtok nt0 tok nt [own]) :
    MkInv F ct R e mtok nt0 ⟨i, cs, l, own, tok, nt⟩ := ⟨h1, h2, h3, h4, h5, h6, h7⟩
def stMk3 (rs : List ByteArray) (pr e lev : Nat) (wi : Bool) (n : Nat) (k : Int) (nm : ByteArray) (nu : Int) (ct ks nb : Nat) (box : Nat → Option (List (List AV))) (x : AccMk) : AState :=
  ⟨tl [(10, I ct), (11, I x.i), (7, I n), (8, I k), (9, .ptr (nb + 9) 0 0), (6, .ptr (nb + 6) 0 0), (0, .ptr ks 0 0), (1, I lev), (2, B wi)], lb nb (upd box ks (some [mkRow e x.cs rs pr])) [(9, [[I k, Sb nm, I nu, .osl 4 (x.l.map Cm.cells) x.own]]), (6, [[I 0, Sb ⟨#[]⟩, I 0, nilS]])], x.tok, x.nt⟩
theorem mk46_rest (rs : List ByteArray) (pr : Nat) : ∀ (lev : Nat) (wi : Bool) (cs : List Int), (mk46 rs pr lev wi cs).2.length ≤ cs.length ∧ (B8s cs → B8s (mk46 rs pr lev wi cs).2) ∧ (cs = [] → (mk46 rs pr lev wi cs).2 = [])
  | 0, wi, cs => ⟨Nat.le_refl _, id, id⟩
  | lev + 1, wi, cs => by
    have key : ∀ (sq : Bool) (n : Nat) (cs : List Int) (acc : List Cm), (mkF (mk46 rs pr lev sq) n cs acc).2.length ≤ cs.length ∧ (B8s cs → B8s (mkF (mk46 rs pr lev sq) n cs acc).2) ∧ (cs = [] → (mkF (mk46 rs pr lev sq) n cs acc).2 = []) := by
      intro sq n
      induction n with
      | zero => intro cs acc; rw [mkF]; exact ⟨Nat.le_refl _, id, id⟩
      | succ n ih =>
        intro cs acc
        obtain ⟨a1, a2, a3⟩ := mk46_rest rs pr lev sq cs
        obtain ⟨b1, b2, b3⟩ := ih (mk46 rs pr lev sq cs).2 (acc ++ [(mk46 rs pr lev sq cs).1])
        rw [mkF]
        exact ⟨Nat.le_trans b1 a1, fun h => b2 (a2 h), fun h => b3 (a3 h)⟩
    rw [mk46_succ rs pr lev wi cs rfl rfl]
    obtain ⟨k1, k2, k3⟩ := key (kdM rs pr (lev + 1) wi (hd46 cs) == 2) (ctM (kdM rs pr (lev + 1) wi (hd46 cs)) (hd46 cs)) cs.tail []
    refine ⟨?_, fun h => k2 h.tail, fun h => k3 (by rw [h]; rfl)⟩
    have : cs.tail.length ≤ cs.length := by rw [List.length_tail]; omega
    simp only
    omega
theorem kd46_at (n : Nat) : kd14[n % 14]? = some (kd46 n) := by
  have h : n % 14 < kd14.length := Nat.mod_lt _ (by decide)
  rw [kd46, List.getD_eq_getElem?_getD, List.getElem?_eq_getElem h]
  rfl
set_option maxHeartbeats 4000000 in
set_option maxRecDepth 100000 in
theorem make46_c (rs : List ByteArray) (hrs : rs.length ≤ 20) (pr : Nat) (hpr : pr ≤ 9) : ∀ (N lev : Nat), lev < N → lev ≤ 10 → ∀ (wi : Bool) (e : Nat) (cs : List Int), (cs = [] ∨ e = 1) → B8s cs → cs.length ≤ 200000000000000 →
    ∀ (ks : Nat) (box : Nat → Option (List (List AV))), box ks = some [mkRow e cs rs pr] → ∀ (nb : Nat) (tok : Nat → Bool) (nt : Nat),
    ACalls Tryz.prog 63 [.ptr ks 0 0, I ((lev + 1 : Nat) : Int), B wi] ⟨box, nb, tok, nt⟩ (QRd (mk46 rs pr (lev + 1) wi cs).1.av (mkRow e (mk46 rs pr (lev + 1) wi cs).2 rs pr) ks box nb tok nt) := by
  intro N
  induction N with
  | zero => intro lev h; exact absurd h (Nat.not_lt_zero _)
  | succ N IH =>
  intro lev hlN h10 wi e cs he hc hl ks box hk nb tok nt
  obtain ⟨L, hLe⟩ : ∃ L, L = lev + 1 := ⟨_, rfl⟩
  rw [← hLe]
  have hnx := next46_c e cs he hc hl rs pr ks
  have hn := hd46_rng hc
  obtain ⟨n, hne⟩ : ∃ n, n = hd46 cs := ⟨_, rfl⟩
  rw [← hne] at hnx hn
  obtain ⟨m14, hme⟩ : ∃ m, m = n % 14 := ⟨_, rfl⟩
  obtain ⟨d, hde⟩ : ∃ d, d = n / 14 := ⟨_, rfl⟩
  have t14 : (n : Int).tmod 14 = (m14 : Int) := by rw [Int.tmod_eq_emod_of_nonneg (by omega)]; omega
  have d14 : (n : Int).tdiv 14 = (d : Int) := by rw [Int.tdiv_eq_ediv_of_nonneg (by omega)]; omega
  have hm14 : (m14 : Int) < 14 := by omega
  have hm14' : m14 < 14 := by omega
  have hka := kd46_at n
  obtain ⟨k, hK0⟩ : ∃ k, kdM rs pr L wi n = k := ⟨_, rfl⟩
  have hkg := kdM_rng rs pr L wi n
  rw [hK0] at hkg
  have hK := hK0
  unfold kdM at hK
  rw [← hme] at hka
  have hkr := kd46_rng n
  generalize kd46 n = k0 at *
  have hkb : ([[D.raw (.int .i64 1)], [D.raw (.int .i64 1)], [D.raw (.int .i64 2)], [D.raw (.int .i64 2)], [D.raw (.int .i64 3)], [D.raw (.int .i64 4)], [D.raw (.int .i64 5)], [D.raw (.int .i64 6)], [D.raw (.int .i64 7)], [D.raw (.int .i64 8)], [D.raw (.int .i64 9)], [D.raw (.int .i64 10)], [D.raw (.int .i64 10)], [D.raw (.int .i64 1)]] : List (List D))[m14]? = some [.raw (.int .i64 k0)] := by
    have h := congrArg (Option.map fun k => [D.raw (.int .i64 k)]) hka
    rw [← List.getElem?_map] at h
    exact h
  obtain ⟨_, hkc⟩ := List.getElem?_eq_some_iff.1 hkb
  refine sB Tryz.func63 Tryz.ntmps63 ?_
  intro hbox htok
  simp only at hbox htok
  apply AL.start
  have kn := key_lt hbox hk
  try (simp [lb_out kn, hk])
  repeat (first | (refine sR ?_; simp [lb_out kn, hk]) | (refine sC ?_; simp [lb_out kn, hk]) | (refine sX ?_; simp only [AU, ↓reduceIte]))
  refine Stop.of_a (hnx _ (by simp only; rw [lb_out kn]; exact hk) _ _ _) ?_
  rintro v m' ⟨rfl, rfl⟩
  simp [upd_lb_out kn]
  refine sR ?_
  simp [upd_lb_out kn, t14, hm14, hm14', hkc]
  refine ⟨rfl, ?_⟩
  refine sN ?_
  refine AL.cutP (l := [_, _]) (stMk1 cs rs pr e L wi n k ks nb box tok nt) True ?_ fun _ => ?_
  · have hk10 : k0 = 1 ∨ k0 = 10 ∨ k0 = 2 ∨ k0 = 3 ∨ k0 = 4 ∨ k0 = 5 ∨ k0 = 6 ∨ k0 = 7 ∨ k0 = 8 ∨ k0 = 9 := by omega
    clear hka hkb hkc
    have hA' : ((L : Int) ≤ 1) = (L ≤ 1) := propext (by omega)
    have hFb : ((pr : Int) == 0) = decide (pr = 0) := by rw [Bool.eq_iff_iff]; simp
    rcases hk10 with rfl | rfl | hrest
    · by_cases hH : rs.length = 0
      · by_cases hA : L ≤ 1
        · cases wi
          · simp [hH, hA] at hK
            subst hK
            try (simp [lb_out kn, upd_same, hH, hA, hA', hFb])
            repeat (first | (refine sR ?_; simp [lb_out kn, upd_same, hH, hA, hA', hFb]) | (refine sC ?_; simp [lb_out kn, upd_same, hH, hA, hA', hFb]) | (refine sX ?_; simp only [AU, ↓reduceIte]))
            refine sE ?_
            exact Weaks.mk' (Nat.le_refl _) (by simp [ToL, lk]; exact to_ptr (by rw [lb_out kn, upd_same]; simp)) (by simp [BoxL, lk]) (outG (by simp))
          · simp [hH, hA] at hK
            subst hK
            try (simp [lb_out kn, upd_same, hH, hA, hA', hFb])
            repeat (first | (refine sR ?_; simp [lb_out kn, upd_same, hH, hA, hA', hFb]) | (refine sC ?_; simp [lb_out kn, upd_same, hH, hA, hA', hFb]) | (refine sX ?_; simp only [AU, ↓reduceIte]))
            refine sE ?_
            exact Weaks.mk' (Nat.le_refl _) (by simp [ToL, lk]; exact to_ptr (by rw [lb_out kn, upd_same]; simp)) (by simp [BoxL, lk]) (outG (by simp))
        · cases wi
          · simp [hH, hA] at hK
            subst hK
            try (simp [lb_out kn, upd_same, hH, hA, hA', hFb])
            repeat (first | (refine sR ?_; simp [lb_out kn, upd_same, hH, hA, hA', hFb]) | (refine sC ?_; simp [lb_out kn, upd_same, hH, hA, hA', hFb]) | (refine sX ?_; simp only [AU, ↓reduceIte]))
            refine sE ?_
            exact Weaks.mk' (Nat.le_refl _) (by simp [ToL, lk]; exact to_ptr (by rw [lb_out kn, upd_same]; simp)) (by simp [BoxL, lk]) (outG (by simp))
          · simp [hH, hA] at hK
            subst hK
            try (simp [lb_out kn, upd_same, hH, hA, hA', hFb])
            repeat (first | (refine sR ?_; simp [lb_out kn, upd_same, hH, hA, hA', hFb]) | (refine sC ?_; simp [lb_out kn, upd_same, hH, hA, hA', hFb]) | (refine sX ?_; simp only [AU, ↓reduceIte]))
            refine sE ?_
            exact Weaks.mk' (Nat.le_refl _) (by simp [ToL, lk]; exact to_ptr (by rw [lb_out kn, upd_same]; simp)) (by simp [BoxL, lk]) (outG (by simp))
      · by_cases hA : L ≤ 1
        · cases wi
          · simp [hH, hA] at hK
            subst hK
            try (simp [lb_out kn, upd_same, hH, hA, hA', hFb])
            repeat (first | (refine sR ?_; simp [lb_out kn, upd_same, hH, hA, hA', hFb]) | (refine sC ?_; simp [lb_out kn, upd_same, hH, hA, hA', hFb]) | (refine sX ?_; simp only [AU, ↓reduceIte]))
            refine sE ?_
            exact Weaks.mk' (Nat.le_refl _) (by simp [ToL, lk]; exact to_ptr (by rw [lb_out kn, upd_same]; simp)) (by simp [BoxL, lk]) (outG (by simp))
          · simp [hH, hA] at hK
            subst hK
            try (simp [lb_out kn, upd_same, hH, hA, hA', hFb])
            repeat (first | (refine sR ?_; simp [lb_out kn, upd_same, hH, hA, hA', hFb]) | (refine sC ?_; simp [lb_out kn, upd_same, hH, hA, hA', hFb]) | (refine sX ?_; simp only [AU, ↓reduceIte]))
            refine sE ?_
            exact Weaks.mk' (Nat.le_refl _) (by simp [ToL, lk]; exact to_ptr (by rw [lb_out kn, upd_same]; simp)) (by simp [BoxL, lk]) (outG (by simp))
        · cases wi
          · simp [hH, hA] at hK
            subst hK
            try (simp [lb_out kn, upd_same, hH, hA, hA', hFb])
            repeat (first | (refine sR ?_; simp [lb_out kn, upd_same, hH, hA, hA', hFb]) | (refine sC ?_; simp [lb_out kn, upd_same, hH, hA, hA', hFb]) | (refine sX ?_; simp only [AU, ↓reduceIte]))
            refine sE ?_
            exact Weaks.mk' (Nat.le_refl _) (by simp [ToL, lk]; exact to_ptr (by rw [lb_out kn, upd_same]; simp)) (by simp [BoxL, lk]) (outG (by simp))
          · simp [hH, hA] at hK
            subst hK
            try (simp [lb_out kn, upd_same, hH, hA, hA', hFb])
            repeat (first | (refine sR ?_; simp [lb_out kn, upd_same, hH, hA, hA', hFb]) | (refine sC ?_; simp [lb_out kn, upd_same, hH, hA, hA', hFb]) | (refine sX ?_; simp only [AU, ↓reduceIte]))
            refine sE ?_
            exact Weaks.mk' (Nat.le_refl _) (by simp [ToL, lk]; exact to_ptr (by rw [lb_out kn, upd_same]; simp)) (by simp [BoxL, lk]) (outG (by simp))
    · by_cases hF : pr = 0
      · by_cases hA : L ≤ 1
        · cases wi
          · simp [hF, hA] at hK
            subst hK
            try (simp [lb_out kn, upd_same, hF, hA, hA', hFb])
            repeat (first | (refine sR ?_; simp [lb_out kn, upd_same, hF, hA, hA', hFb]) | (refine sC ?_; simp [lb_out kn, upd_same, hF, hA, hA', hFb]) | (refine sX ?_; simp only [AU, ↓reduceIte]))
            refine sE ?_
            exact Weaks.mk' (Nat.le_refl _) (by simp [ToL, lk]; exact to_ptr (by rw [lb_out kn, upd_same]; simp)) (by simp [BoxL, lk]) (outG (by simp))
          · simp [hF, hA] at hK
            subst hK
            try (simp [lb_out kn, upd_same, hF, hA, hA', hFb])
            repeat (first | (refine sR ?_; simp [lb_out kn, upd_same, hF, hA, hA', hFb]) | (refine sC ?_; simp [lb_out kn, upd_same, hF, hA, hA', hFb]) | (refine sX ?_; simp only [AU, ↓reduceIte]))
            refine sE ?_
            exact Weaks.mk' (Nat.le_refl _) (by simp [ToL, lk]; exact to_ptr (by rw [lb_out kn, upd_same]; simp)) (by simp [BoxL, lk]) (outG (by simp))
        · cases wi
          · simp [hF, hA] at hK
            subst hK
            try (simp [lb_out kn, upd_same, hF, hA, hA', hFb])
            repeat (first | (refine sR ?_; simp [lb_out kn, upd_same, hF, hA, hA', hFb]) | (refine sC ?_; simp [lb_out kn, upd_same, hF, hA, hA', hFb]) | (refine sX ?_; simp only [AU, ↓reduceIte]))
            refine sE ?_
            exact Weaks.mk' (Nat.le_refl _) (by simp [ToL, lk]; exact to_ptr (by rw [lb_out kn, upd_same]; simp)) (by simp [BoxL, lk]) (outG (by simp))
          · simp [hF, hA] at hK
            subst hK
            try (simp [lb_out kn, upd_same, hF, hA, hA', hFb])
            repeat (first | (refine sR ?_; simp [lb_out kn, upd_same, hF, hA, hA', hFb]) | (refine sC ?_; simp [lb_out kn, upd_same, hF, hA, hA', hFb]) | (refine sX ?_; simp only [AU, ↓reduceIte]))
            refine sE ?_
            exact Weaks.mk' (Nat.le_refl _) (by simp [ToL, lk]; exact to_ptr (by rw [lb_out kn, upd_same]; simp)) (by simp [BoxL, lk]) (outG (by simp))
      · by_cases hA : L ≤ 1
        · cases wi
          · simp [hF, hA] at hK
            subst hK
            try (simp [lb_out kn, upd_same, hF, hA, hA', hFb])
            repeat (first | (refine sR ?_; simp [lb_out kn, upd_same, hF, hA, hA', hFb]) | (refine sC ?_; simp [lb_out kn, upd_same, hF, hA, hA', hFb]) | (refine sX ?_; simp only [AU, ↓reduceIte]))
            refine sE ?_
            exact Weaks.mk' (Nat.le_refl _) (by simp [ToL, lk]; exact to_ptr (by rw [lb_out kn, upd_same]; simp)) (by simp [BoxL, lk]) (outG (by simp))
          · simp [hF, hA] at hK
            subst hK
            try (simp [lb_out kn, upd_same, hF, hA, hA', hFb])
            repeat (first | (refine sR ?_; simp [lb_out kn, upd_same, hF, hA, hA', hFb]) | (refine sC ?_; simp [lb_out kn, upd_same, hF, hA, hA', hFb]) | (refine sX ?_; simp only [AU, ↓reduceIte]))
            refine sE ?_
            exact Weaks.mk' (Nat.le_refl _) (by simp [ToL, lk]; exact to_ptr (by rw [lb_out kn, upd_same]; simp)) (by simp [BoxL, lk]) (outG (by simp))
        · cases wi
          · simp [hF, hA] at hK
            subst hK
            try (simp [lb_out kn, upd_same, hF, hA, hA', hFb])
            repeat (first | (refine sR ?_; simp [lb_out kn, upd_same, hF, hA, hA', hFb]) | (refine sC ?_; simp [lb_out kn, upd_same, hF, hA, hA', hFb]) | (refine sX ?_; simp only [AU, ↓reduceIte]))
            refine sE ?_
            exact Weaks.mk' (Nat.le_refl _) (by simp [ToL, lk]; exact to_ptr (by rw [lb_out kn, upd_same]; simp)) (by simp [BoxL, lk]) (outG (by simp))
          · simp [hF, hA] at hK
            subst hK
            try (simp [lb_out kn, upd_same, hF, hA, hA', hFb])
            repeat (first | (refine sR ?_; simp [lb_out kn, upd_same, hF, hA, hA', hFb]) | (refine sC ?_; simp [lb_out kn, upd_same, hF, hA, hA', hFb]) | (refine sX ?_; simp only [AU, ↓reduceIte]))
            refine sE ?_
            exact Weaks.mk' (Nat.le_refl _) (by simp [ToL, lk]; exact to_ptr (by rw [lb_out kn, upd_same]; simp)) (by simp [BoxL, lk]) (outG (by simp))
    · have n1 : (k0 == 1) = false := by rw [beq_eq_false_iff_ne]; omega
      have n10 : (k0 == 10) = false := by rw [beq_eq_false_iff_ne]; omega
      have m1 : ¬ k0 = 1 := by omega
      have m10 : ¬ k0 = 10 := by omega
      have m2 : 2 ≤ k0 := by omega
      by_cases hA : L ≤ 1
      · by_cases h7 : k0 ≤ 7
        · simp [m1, m10, m2, h7, hA] at hK
          subst hK
          try (simp [lb_out kn, upd_same, n1, n10, m1, m10, m2, h7, hA, hA'])
          repeat (first | (refine sR ?_; simp [lb_out kn, upd_same, n1, n10, m1, m10, m2, h7, hA, hA']) | (refine sC ?_; simp [lb_out kn, upd_same, n1, n10, m1, m10, m2, h7, hA, hA']) | (refine sX ?_; simp only [AU, ↓reduceIte]))
          refine sE ?_
          exact Weaks.mk' (Nat.le_refl _) (by simp [ToL, lk]; exact to_ptr (by rw [lb_out kn, upd_same]; simp)) (by simp [BoxL, lk]) (outG (by simp))
        · have e2 : (k0 == 2) = false := by rw [beq_eq_false_iff_ne]; omega
          have f2 : ¬ k0 = 2 := by omega
          cases wi
          · simp [m1, m10, m2, h7, hA, f2] at hK
            subst hK
            try (simp [lb_out kn, upd_same, n1, n10, m1, m10, m2, h7, hA, hA', e2, f2])
            repeat (first | (refine sR ?_; simp [lb_out kn, upd_same, n1, n10, m1, m10, m2, h7, hA, hA', e2, f2]) | (refine sC ?_; simp [lb_out kn, upd_same, n1, n10, m1, m10, m2, h7, hA, hA', e2, f2]) | (refine sX ?_; simp only [AU, ↓reduceIte]))
            refine sE ?_
            exact Weaks.mk' (Nat.le_refl _) (by simp [ToL, lk]; exact to_ptr (by rw [lb_out kn, upd_same]; simp)) (by simp [BoxL, lk]) (outG (by simp))
          · simp [m1, m10, m2, h7, hA, f2] at hK
            subst hK
            try (simp [lb_out kn, upd_same, n1, n10, m1, m10, m2, h7, hA, hA', e2, f2])
            repeat (first | (refine sR ?_; simp [lb_out kn, upd_same, n1, n10, m1, m10, m2, h7, hA, hA', e2, f2]) | (refine sC ?_; simp [lb_out kn, upd_same, n1, n10, m1, m10, m2, h7, hA, hA', e2, f2]) | (refine sX ?_; simp only [AU, ↓reduceIte]))
            refine sE ?_
            exact Weaks.mk' (Nat.le_refl _) (by simp [ToL, lk]; exact to_ptr (by rw [lb_out kn, upd_same]; simp)) (by simp [BoxL, lk]) (outG (by simp))
      · by_cases f2 : k0 = 2
        · subst f2
          clear n1 n10 m1 m10 m2
          cases wi
          · simp [hA] at hK
            subst hK
            try (simp [lb_out kn, upd_same, hA, hA'])
            repeat (first | (refine sR ?_; simp [lb_out kn, upd_same, hA, hA']) | (refine sC ?_; simp [lb_out kn, upd_same, hA, hA']) | (refine sX ?_; simp only [AU, ↓reduceIte]))
            refine sE ?_
            exact Weaks.mk' (Nat.le_refl _) (by simp [ToL, lk]; exact to_ptr (by rw [lb_out kn, upd_same]; simp)) (by simp [BoxL, lk]) (outG (by simp))
          · simp [hA] at hK
            subst hK
            try (simp [lb_out kn, upd_same, hA, hA'])
            repeat (first | (refine sR ?_; simp [lb_out kn, upd_same, hA, hA']) | (refine sC ?_; simp [lb_out kn, upd_same, hA, hA']) | (refine sX ?_; simp only [AU, ↓reduceIte]))
            refine sE ?_
            exact Weaks.mk' (Nat.le_refl _) (by simp [ToL, lk]; exact to_ptr (by rw [lb_out kn, upd_same]; simp)) (by simp [BoxL, lk]) (outG (by simp))
        · have e2 : (k0 == 2) = false := by rw [beq_eq_false_iff_ne]; exact f2
          cases wi
          · simp [m1, m10, m2, hA, f2] at hK
            subst hK
            try (simp [lb_out kn, upd_same, n1, n10, m1, m10, m2, hA, hA', e2, f2])
            repeat (first | (refine sR ?_; simp [lb_out kn, upd_same, n1, n10, m1, m10, m2, hA, hA', e2, f2]) | (refine sC ?_; simp [lb_out kn, upd_same, n1, n10, m1, m10, m2, hA, hA', e2, f2]) | (refine sX ?_; simp only [AU, ↓reduceIte]))
            refine sE ?_
            exact Weaks.mk' (Nat.le_refl _) (by simp [ToL, lk]; exact to_ptr (by rw [lb_out kn, upd_same]; simp)) (by simp [BoxL, lk]) (outG (by simp))
          · simp [m1, m10, m2, hA, f2] at hK
            subst hK
            try (simp [lb_out kn, upd_same, n1, n10, m1, m10, m2, hA, hA', e2, f2])
            repeat (first | (refine sR ?_; simp [lb_out kn, upd_same, n1, n10, m1, m10, m2, hA, hA', e2, f2]) | (refine sC ?_; simp [lb_out kn, upd_same, n1, n10, m1, m10, m2, hA, hA', e2, f2]) | (refine sX ?_; simp only [AU, ↓reduceIte]))
            refine sE ?_
            exact Weaks.mk' (Nat.le_refl _) (by simp [ToL, lk]; exact to_ptr (by rw [lb_out kn, upd_same]; simp)) (by simp [BoxL, lk]) (outG (by simp))
  · simp only [stMk1]
    refine sN ?_
    refine sR ?_
    simp
    refine sN ?_
    refine AL.cutP (l := [_, _]) (stMk2 cs rs pr e L wi n k (nmM rs pr k n) (nuM k n) ks nb box tok nt) True ?_ fun _ => ?_
    · clear hka hkb hkc
      have w14 : IntKind.i64.wrap (d : Int) = (d : Int) := wrap_in (by omega) (by omega)
      by_cases k1 : k = 1
      · subst k1
        have hrl := (kdM_in (rs := rs) (pr := pr) (lev := L) (wi := wi) (n := n)).2.2 hK0
        obtain ⟨j, hj⟩ : ∃ j, j = d % rs.length := ⟨_, rfl⟩
        have hjl : j < rs.length := by rw [hj]; exact Nat.mod_lt _ (by omega)
        have hjl' : (j : Int) < (rs.length : Int) := by omega
        have tj : (d : Int).tmod (rs.length : Int) = (j : Int) := by rw [Int.tmod_eq_emod_of_nonneg (by omega), hj, Int.natCast_emod]
        have hnm : nmM rs pr 1 n = rs[j] := by
          rw [nmM, if_pos rfl, ← hde, ← hj, List.getD_eq_getElem?_getD, List.getElem?_eq_getElem hjl]
          rfl
        have hnu : nuM 1 n = 0 := rfl
        have hat := strs_at hjl
        have hr0 : (rs.length : Int) ≠ 0 := by omega
        rw [hnm, hnu]
        try (simp [lb_out kn, upd_same, d14, tj, w14, hjl, hjl', hr0, hrl])
        repeat (first | (refine sR ?_; simp [lb_out kn, upd_same, d14, tj, w14, hjl, hjl', hr0, hrl]) | (refine sC ?_; simp [lb_out kn, upd_same, d14, tj, w14, hjl, hjl', hr0, hrl]) | (refine sX ?_; simp only [AU, ↓reduceIte]))
        refine sE ?_
        exact Weaks.mk' (Nat.le_refl _) (by simp [ToL, lk]; exact to_ptr (by rw [lb_out kn, upd_same]; simp)) (by simp [BoxL, lk]) (outG (by simp))
      · by_cases k10 : k = 10
        · subst k10
          have hpl := (kdM_in (rs := rs) (pr := pr) (lev := L) (wi := wi) (n := n)).2.1 hK0
          obtain ⟨j, hj⟩ : ∃ j, j = d % pr := ⟨_, rfl⟩
          have hjl : j < pr := by rw [hj]; exact Nat.mod_lt _ (by omega)
          have tj : (d : Int).tmod (pr : Int) = (j : Int) := by rw [Int.tmod_eq_emod_of_nonneg (by omega), hj, Int.natCast_emod]
          have hnm : nmM rs pr 10 n = ⟨#[112]⟩ ++ digR (j : Int) := by
            rw [nmM, if_neg (by decide), if_pos rfl, ← hde, ← hj]
            rfl
          have hnu : nuM 10 n = 0 := rfl
          have hr0 : (pr : Int) ≠ 0 := by omega
          have hdg := digits_c (j : Int) (by omega) (by omega)
          have hdz := digR_size (j : Int)
          rw [hnm, hnu]
          generalize digR (j : Int) = DG at *
          try (simp [lb_out kn, upd_same, d14, tj, w14, hr0, hpl])
          repeat (first | (refine sR ?_; simp [lb_out kn, upd_same, d14, tj, w14, hr0, hpl]) | (refine sC ?_; simp [lb_out kn, upd_same, d14, tj, w14, hr0, hpl]) | (refine sX ?_; simp only [AU, ↓reduceIte]))
          refine Stop.of_d (hdg _ _) ?_
          simp
          have z1 : (⟨#[112]⟩ : ByteArray).size = 1 := rfl
          refine ⟨by omega, ?_⟩
          try (simp [lb_out kn, upd_same])
          repeat (first | (refine sR ?_; simp [lb_out kn, upd_same]) | (refine sC ?_; simp [lb_out kn, upd_same]) | (refine sX ?_; simp only [AU, ↓reduceIte]))
          refine sE ?_
          exact Weaks.mk' (Nat.le_refl _) (by simp [ToL, lk]; exact to_ptr (by rw [lb_out kn, upd_same]; simp)) (by simp [BoxL, lk]) (outG (by simp))
        · have c1 : (k == 1) = false := by rw [beq_eq_false_iff_ne]; exact k1
          have c10 : (k == 10) = false := by rw [beq_eq_false_iff_ne]; exact k10
          have hnm : nmM rs pr k n = ⟨#[]⟩ := by rw [nmM, if_neg k1, if_neg k10]
          rw [hnm]
          by_cases k6 : k = 6
          · subst k6
            obtain ⟨j, hj⟩ : ∃ j, j = d % 3 := ⟨_, rfl⟩
            have tj : (d : Int).tmod 3 = (j : Int) := by rw [Int.tmod_eq_emod_of_nonneg (by omega)]; omega
            have hnu : nuM 6 n = 1 + (j : Int) := by rw [nuM, if_pos rfl, ← hde, ← hj]; omega
            have wj : IntKind.i64.wrap (1 + (j : Int)) = 1 + (j : Int) := wrap_in (by omega) (by omega)
            rw [hnu]
            try (simp [lb_out kn, upd_same, d14, tj, w14, wj])
            repeat (first | (refine sR ?_; simp [lb_out kn, upd_same, d14, tj, w14, wj]) | (refine sC ?_; simp [lb_out kn, upd_same, d14, tj, w14, wj]) | (refine sX ?_; simp only [AU, ↓reduceIte]))
            refine sE ?_
            exact Weaks.mk' (Nat.le_refl _) (by simp [ToL, lk]; exact to_ptr (by rw [lb_out kn, upd_same]; simp)) (by simp [BoxL, lk]) (outG (by simp))
          · have c6 : (k == 6) = false := by rw [beq_eq_false_iff_ne]; exact k6
            have hnu : nuM k n = 0 := by rw [nuM, if_neg k6]
            rw [hnu]
            try (simp [lb_out kn, upd_same, c1, c10, c6, k1, k10, k6])
            repeat (first | (refine sR ?_; simp [lb_out kn, upd_same, c1, c10, c6, k1, k10, k6]) | (refine sC ?_; simp [lb_out kn, upd_same, c1, c10, c6, k1, k10, k6]) | (refine sX ?_; simp only [AU, ↓reduceIte]))
            refine sE ?_
            exact Weaks.mk' (Nat.le_refl _) (by simp [ToL, lk]; exact to_ptr (by rw [lb_out kn, upd_same]; simp)) (by simp [BoxL, lk]) (outG (by simp))
    · simp only [stMk2]
      clear hka hkb hkc
      have hR := mk46_succ rs pr lev wi cs hne (k := k) (by rw [← hLe]; exact hK0.symm)
      rw [← hLe] at hR
      obtain ⟨ct, hct⟩ : ∃ ct, ct = ctM k n := ⟨_, rfl⟩
      have hlow := fun h => kdM_low (rs := rs) (pr := pr) (lev := L) (wi := wi) (n := n) h
      rw [hK0] at hlow
      rw [← hct] at hR
      obtain ⟨j2, hj2⟩ : ∃ j, j = d % 2 := ⟨_, rfl⟩
      have t2 : (d : Int).tmod 2 = (j2 : Int) := by rw [Int.tmod_eq_emod_of_nonneg (by omega)]; omega
      have w14 : IntKind.i64.wrap (d : Int) = (d : Int) := wrap_in (by omega) (by omega)
      have w2 : IntKind.i64.wrap (2 + (j2 : Int)) = 2 + (j2 : Int) := wrap_in (by omega) (by omega)
      have hka : ([[D.raw (.int .i64 0)], [D.raw (.int .i64 0)], [D.raw (.int .i64 (2 + (j2 : Int)))], [D.raw (.int .i64 2)], [D.raw (.int .i64 3)], [D.raw (.int .i64 1)], [D.raw (.int .i64 1)], [D.raw (.int .i64 1)], [D.raw (.int .i64 0)], [D.raw (.int .i64 0)], [D.raw (.int .i64 0)]] : List (List D))[k.toNat]? = some [.raw (.int .i64 (ct : Int))] := by
        have hk10 : k = 1 ∨ k = 10 ∨ k = 2 ∨ k = 3 ∨ k = 4 ∨ k = 5 ∨ k = 6 ∨ k = 7 ∨ k = 8 ∨ k = 9 := by omega
        rw [hct]
        rcases hk10 with e | e | e | e | e | e | e | e | e | e <;> rw [e]
        · rfl
        · rfl
        · show some [D.raw (.int .i64 (2 + (j2 : Int)))] = some [D.raw (.int .i64 ((2 + n / 14 % 2 : Nat) : Int))]
          rw [← hde, ← hj2]
          simp
        all_goals rfl
      obtain ⟨hkl, hkc⟩ := List.getElem?_eq_some_iff.1 hka
      have hk0 : 0 ≤ k := by omega
      have hk11 : k < 11 := by omega
      have hct3 : ct ≤ 3 := by
        rw [hct]
        unfold ctM
        have := Nat.mod_lt (n / 14) (show 0 < 2 by decide)
        repeat' split
        all_goals omega
      have hctl : 0 < ct → 1 ≤ lev := fun h => by
        rcases Nat.eq_zero_or_pos lev with h0 | h0
        · have := hlow (by omega)
          have : ctM k n = 0 := by rw [ctM, if_neg (by omega), if_neg (by omega), if_neg (by omega), if_neg (by omega)]
          omega
        · exact h0
      have ht0 := TK.start htok
      obtain ⟨R, hRR⟩ : ∃ R, mkF (mk46 rs pr lev (k == 2)) ct cs.tail [] = R := ⟨_, rfl⟩
      rw [hRR] at hR
      rw [hR]
      refine sN ?_
      refine sR ?_
      simp [d14, t2, w14, w2, hk0, hk11, hkc]
      refine ⟨rfl, ?_⟩
      refine sN ?_
      refine sR ?_
      simp
      have hLL : 0 < ct → lev - 1 + 1 = lev := fun h => by have := hctl h; omega
      clear hct hlow hka hkc hK
      generalize nmM rs pr k n = nm at *
      generalize nuM k n = nu at *
      have hel : cs.tail = [] ∨ e = 1 := he.imp (fun h => by rw [h]; rfl) id
      have htl : cs.tail.length ≤ 200000000000000 := by rw [List.length_tail]; omega
      refine sN ?_
      refine AL.loopT (stMk3 rs pr e L wi n k nm nu ct ks nb box) (MkInv (mk46 rs pr lev (k == 2)) ct R e tok nt) (fun x => ct - x.i) ⟨0, cs.tail, [], .full, tok, nt⟩ (MkInv.of (Nat.zero_le _) hRR hel hc.tail htl rfl ht0.full)
        (Weaks.mk' (Nat.le_refl _) (by simp [stMk3, ToL, lk]; exact to_ptr (by rw [lb_out kn, upd_same]; simp)) (by simp [stMk3, BoxL, lk]) (outG (by simp))) ?_
      rintro ⟨i, cs1, l, own, tok1, nt1⟩ S hinv hS
      obtain ⟨hi, hq, he1, hc1, hl1, hln, htk⟩ := hinv
      simp only [stMk3] at hS hi hq he1 hc1 hl1 hln htk ⊢
      subst hS
      have hwi : IntKind.i64.wrap ((i : Int) + 1) = ((i + 1 : Nat) : Int) := by rw [wrap_in (by omega) (by omega)]; rfl
      have hwL : IntKind.i64.wrap ((L : Int) - 1) = (lev : Int) := by rw [wrap_in (by omega) (by omega)]; omega
      by_cases hlt : i < ct
      · have hlt' : (i : Int) < (ct : Int) := by omega
        have c2 := IH (lev - 1) (by omega) (by omega) (k == 2) e cs1 he1 hc1 hl1 ks
        rw [hLL (by omega)] at c2
        obtain ⟨g1, g2, g3⟩ := mk46_rest rs pr lev (k == 2) cs1
        have hm := Nat.sub_add_cancel (show 1 ≤ ct - i by omega)
        rw [← hm, mkF] at hq
        rw [show ct - i - 1 = ct - (i + 1) by omega] at hq
        have g4 : (mk46 rs pr lev (k == 2) cs1).2 = [] ∨ e = 1 := he1.imp g3 id
        obtain ⟨c3, cs3, hc3⟩ : ∃ c3 cs3, mk46 rs pr lev (k == 2) cs1 = (c3, cs3) := ⟨_, _, rfl⟩
        rw [hc3] at c2 hq g1 g2 g4
        simp only at c2 hq g1 g2 g4
        have hne7 : nb + 9 ≠ ks := by omega
        try (simp [hlt, hlt'])
        repeat (refine sR ?_; simp [hlt, hlt'])
        refine sC ?_
        simp
        refine sN ?_
        refine AL.region3 follows_Tryz (Nat.le_refl _) (by kernel_rfl) (Side.of (by simp)) [(Operand.tmp 111, Operand.tmp 113)] (by kernel_rfl) ?_
        simp [lb_out kn, upd_lb_out kn, upd_same, hwL]
        refine StopW.of_w rfl rfl (by simp only; rw [lb_out kn, upd_same]; simp) (fun box' nb' hb' => (c2 box' (by rw [hb']; simp only; rw [lb_out kn, upd_same]) nb' tok1 nt1).mono fun v m1 hq => ⟨hq.1, hq.2⟩) ?_
        simp [lb_out kn, upd_lb_out kn, upd_same, upd_upd, NK, hne7]
        refine ⟨⟨by omega, htk.live⟩, ?_⟩
        try (simp [hwi])
        repeat (first | (refine sR ?_; simp [hwi]) | (refine sC ?_; simp [hwi]) | (refine sX ?_; simp only [AU, ↓reduceIte]))
        refine sE ?_
        refine ⟨⟨i + 1, cs3, l ++ [c3], .tok nt1, upd (own.kill tok1) nt1 true, nt1 + 1⟩, MkInv.of (by omega) hq g4 (g2 hc1) (by omega) (by simp [hln]) htk.app, by simp only; omega, ?_⟩
        simp only [stMk3]
        exact Weaks.mk' (by have := htk.le; omega) (by simp [ToL, lk]; exact to_ptr (by rw [lb_out kn, upd_same]; simp)) (by simp [BoxL, lk, Cm.cells_eq]) (outG (by simp))
      · have hie : i = ct := by omega
        subst hie
        rw [Nat.sub_self, mkF] at hq
        subst hq
        try (simp [hlt])
        repeat (first | (refine sR ?_; simp [hlt]) | (refine sC ?_; simp [hlt]) | (refine sX ?_; simp only [AU, ↓reduceIte]))
        refine sT ?_
        try simp only [AU]
        refine ⟨by simp, (Fin.gen (av := Cm.av (.mk k nm nu l)) (tok' := tok) (nt' := nt) (by simp [resAs, resA, lk]; rfl) (by rw [← upd_lb_out kn, hbox]) (Nat.le_refl _) htk.le (fun t ht => ⟨htk.old t ht, .inr (htok t ht)⟩) (outG (by simp)) (by simp [packA, Cm.kind, Cm.name, Cm.num, Cm.kids, cms])).mono fun v m hq => ?_⟩
        exact hq
end Go.AM
namespace Go.AM
open Go Go.Proofs
abbrev codesD (l : List (List Int)) : D := .sl 1 (l.map fun c => [byE 1 c])
structure CodesOk (l : List (List Int)) : Prop where
  len : l.length ≤ 200000000000000
  each : ∀ c ∈ l, c.length ≤ 200000000000000 ∧ B8s c
theorem codes_at {l : List (List Int)} {i : Nat} (h : i < l.length) : (l.map fun c => [byE 1 c])[i]? = some [byE 1 l[i]] := by simp [h]
structure AccMd where
  i : Nat
  own : Own
  tok : Nat → Bool
  nt : Nat
def stMd (codes : List (List Int)) (rs : List ByteArray) (nb : Nat) (box : Nat → Option (List (List AV))) (x : AccMd) : AState :=
  ⟨tl [(0, .d (codesD codes)), (1, .d (strs rs)), (5, .ptr (nb + 5) 0 0), (4, .ptr (nb + 4) 0 0), (6, I x.i)], lb nb box [(5, [[.osl 5 ((md46 codes rs x.i).map Pr.cells) x.own]]), (4, [[nilS]])], x.tok, x.nt⟩
def stMe (codes : List (List Int)) (rs : List ByteArray) (nb : Nat) (box : Nat → Option (List (List AV))) (x : AccMd) : AState :=
  ⟨tl [(0, .d (codesD codes)), (1, .d (strs rs)), (5, .ptr (nb + 5) 0 0), (4, .ptr (nb + 4) 0 0), (6, I x.i), (7, .ptr (nb + 25) 0 0)], lb nb box [(25, [mkRow 0 [] rs x.i]), (5, [[.osl 5 ((md46 codes rs x.i).map Pr.cells) x.own]]), (4, [[nilS]])], x.tok, x.nt⟩
set_option maxHeartbeats 4000000 in
set_option maxRecDepth 100000 in
theorem made46_c (codes : List (List Int)) (hc : CodesOk codes) (rs : List ByteArray) (hrs : rs.length ≤ 20) (tok : Nat → Bool) (nt : Nat) :
    DCall Tryz.prog 26 [.d (codesD codes), .d (strs rs)] tok nt (prsAv (md46 codes rs (mdN codes))) tok nt := by
  intro box nb
  have hlc := hc.len
  refine sB Tryz.func26 Tryz.ntmps26 ?_
  intro hbox htok
  simp only at hbox htok
  apply AL.start
  have ht0 := TK.start htok
  try (simp)
  repeat (refine sR ?_; simp)
  refine sN ?_
  refine AL.loopT (stMd codes rs nb box) (fun x => x.i ≤ mdN codes ∧ TK tok nt x.tok x.nt [x.own]) (fun x => mdN codes - x.i) ⟨0, .full, tok, nt⟩ ⟨Nat.zero_le _, ht0.full⟩
    (Weaks.mk (Nat.le_refl _) rfl (by simp [stMd, ToL, lk]) (by simp [stMd, BoxL, lk, md46])) ?_
  rintro ⟨i, own, tok1, nt1⟩ S ⟨hi, htk⟩ hS
  simp only [stMd] at hS hi htk ⊢
  subst hS
  have hN : mdN codes = max 1 (min 4 codes.length) := rfl
  have hwi : IntKind.i64.wrap ((i : Int) + 1) = ((i + 1 : Nat) : Int) := by rw [wrap_in (by omega) (by omega)]; rfl
  have hlen := md46_len codes rs i
  have hsn := md46_succ codes rs i
  by_cases hlt : i < mdN codes
  · have hdg := digits_c (i : Int) (by omega) (by omega)
    have hdz := digR_size (i : Int)
    have hi4 : (i : Int) < 4 := by omega
    refine sN ?_
    refine AL.cutP (l := [_, _]) (stMd codes rs nb box ⟨i, own, tok1, nt1⟩) True ?_ fun _ => ?_
    · by_cases h0 : i = 0
      · have h0b : ((i : Int) == 0) = true := by rw [beq_iff_eq]; omega
        try (simp [hi4, h0b])
        repeat (first | (refine sR ?_; simp [hi4, h0b]) | (refine sC ?_; simp [hi4, h0b]) | (refine sX ?_; simp only [AU, ↓reduceIte]))
        refine sE ?_
        exact Weaks.mk htk.le rfl (by simp [stMd, ToL, lk]) (by simp [stMd, BoxL, lk])
      · have h0b : ((i : Int) == 0) = false := by rw [beq_eq_false_iff_ne]; omega
        have hic : i < codes.length := by omega
        have hic' : (i : Int) < (codes.length : Int) := by omega
        try (simp [hi4, h0b, h0, hic, hic'])
        repeat (first | (refine sR ?_; simp [hi4, h0b, h0, hic, hic']) | (refine sC ?_; simp [hi4, h0b, h0, hic, hic']) | (refine sX ?_; simp only [AU, ↓reduceIte]))
        refine sE ?_
        exact Weaks.mk htk.le rfl (by simp [stMd, ToL, lk]) (by simp [stMd, BoxL, lk])
    · simp only [stMd]
      by_cases hic : i < codes.length
      · have hic' : (i : Int) < (codes.length : Int) := by omega
        obtain ⟨cz, cb⟩ := hc.each _ (List.getElem_mem hic)
        have hat := codes_at hic
        have hcd : codes.getD i [] = codes[i] := by simp [hic]
        rw [hcd] at hsn
        refine sN ?_
        refine sR ?_
        simp
        refine sN ?_
        refine sR ?_
        simp [hic, hic']
        have hmk := make46_c rs hrs i (by omega) 4 3 (by decide) (by decide) false 1 codes[i] (.inr rfl) cb cz
        obtain ⟨c3, cs3, hc3⟩ : ∃ c3 cs3, mk46 rs i (3 + 1) false codes[i] = (c3, cs3) := ⟨_, _, rfl⟩
        rw [hc3] at hmk
        rw [show mk46 rs i 4 false codes[i] = (c3, cs3) from hc3] at hsn
        refine sC ?_
        simp
        refine sR ?_
        simp [hic, hic']
        refine sN ?_
        refine AL.region3 follows_Tryz (Nat.le_refl _) (by kernel_rfl) (Side.of (by simp)) [(Operand.tmp 37, Operand.tmp 39), (Operand.tmp 37, Operand.tmp 42)] (by kernel_rfl) ?_
        simp [lb_at, lk, upd_lb]
        refine StopW.of_d (hdg _ _) ?_
        simp [lb_at, lk, upd_lb]
        have z1 : (⟨#[112]⟩ : ByteArray).size = 1 := rfl
        refine ⟨by omega, ?_⟩
        refine StopW.of_w rfl rfl (by simp [lb_at, lk]) (fun box' nb' hb' => (hmk (nb + 25) box' (by rw [hb']; simp [lb_at, lk]) nb' tok1 nt1).mono fun v m1 hq => ⟨hq.1, hq.2⟩) ?_
        simp [lb_at, lk, upd_lb, upd_same, upd_upd, NK]
        refine ⟨⟨by omega, htk.live⟩, ?_⟩
        try (simp [hwi])
        repeat (first | (refine sR ?_; simp [hwi]) | (refine sC ?_; simp [hwi]) | (refine sX ?_; simp only [AU, ↓reduceIte]))
        refine sE ?_
        refine ⟨⟨i + 1, .tok nt1, upd (own.kill tok1) nt1 true, nt1 + 1⟩, ⟨by show i + 1 ≤ mdN codes; omega, htk.app⟩, by show mdN codes - (i + 1) < mdN codes - i; omega, ?_⟩
        simp only [stMd]
        exact Weaks.mk (by have := htk.le; omega) rfl (by simp [ToL, lk]) (by simp [BoxL, lk, hsn, Cm.cells_eq, pNm, sP])
      · have hic' : ¬ (i : Int) < (codes.length : Int) := by omega
        have hcd : codes.getD i [] = [] := by simp [hic]
        rw [hcd] at hsn
        refine sN ?_
        refine sR ?_
        simp
        refine sN ?_
        refine sR ?_
        simp [hic, hic']
        have hmk := make46_c rs hrs i (by omega) 4 3 (by decide) (by decide) false 0 [] (.inl rfl) (by simp [B8s]) (by simp)
        obtain ⟨c3, cs3, hc3⟩ : ∃ c3 cs3, mk46 rs i (3 + 1) false [] = (c3, cs3) := ⟨_, _, rfl⟩
        rw [hc3] at hmk
        rw [show mk46 rs i 4 false [] = (c3, cs3) from hc3] at hsn
        refine sC ?_
        simp
        refine AL.weak (S' := stMe codes rs nb box ⟨i, own, tok1, nt1⟩) (Weaks.mk htk.le rfl (by simp [stMe, ToL, lk]) (by simp [stMe, BoxL, lk, byE])) ?_
        simp only [stMe]
        refine sN ?_
        refine AL.region3 follows_Tryz (Nat.le_refl _) (by kernel_rfl) (Side.of (by simp)) [(Operand.tmp 37, Operand.tmp 39), (Operand.tmp 37, Operand.tmp 42)] (by kernel_rfl) ?_
        simp [lb_at, lk, upd_lb]
        refine StopW.of_d (hdg _ _) ?_
        simp [lb_at, lk, upd_lb]
        have z1 : (⟨#[112]⟩ : ByteArray).size = 1 := rfl
        refine ⟨by omega, ?_⟩
        refine StopW.of_w rfl rfl (by simp [lb_at, lk]) (fun box' nb' hb' => (hmk (nb + 25) box' (by rw [hb']; simp [lb_at, lk]) nb' tok1 nt1).mono fun v m1 hq => ⟨hq.1, hq.2⟩) ?_
        simp [lb_at, lk, upd_lb, upd_same, upd_upd, NK]
        refine ⟨⟨by omega, htk.live⟩, ?_⟩
        try (simp [hwi])
        repeat (first | (refine sR ?_; simp [hwi]) | (refine sC ?_; simp [hwi]) | (refine sX ?_; simp only [AU, ↓reduceIte]))
        refine sE ?_
        refine ⟨⟨i + 1, .tok nt1, upd (own.kill tok1) nt1 true, nt1 + 1⟩, ⟨by show i + 1 ≤ mdN codes; omega, htk.app⟩, by show mdN codes - (i + 1) < mdN codes - i; omega, ?_⟩
        simp only [stMd]
        exact Weaks.mk (by have := htk.le; omega) rfl (by simp [ToL, lk]) (by simp [BoxL, lk, hsn, Cm.cells_eq, pNm, sP])
  · have hie : i = mdN codes := by omega
    have hi1 : 1 ≤ i := by omega
    have h0b : ((i : Int) == 0) = false := by rw [beq_eq_false_iff_ne]; omega
    have h0 : ¬ i = 0 := by omega
    by_cases hic : i < codes.length
    · have hic' : (i : Int) < (codes.length : Int) := by omega
      have hi4 : ¬ (i : Int) < 4 := by omega
      subst hie
      try (simp [h0b, h0, hic, hic', hi4])
      repeat (refine sR ?_; simp [h0b, h0, hic, hic', hi4])
      refine sC ?_
      simp
      refine sX ?_
      simp only [AU, ↓reduceIte]
      try (simp)
      repeat (refine sR ?_; simp)
      refine sT ?_
      try simp only [AU]
      refine ⟨by simp, sF hbox htok htk.old htk.le ?_⟩
      simp [packA]
    · have hic' : ¬ (i : Int) < (codes.length : Int) := by omega
      subst hie
      try (simp [h0b, h0, hic, hic'])
      repeat (refine sR ?_; simp [h0b, h0, hic, hic'])
      refine sC ?_
      simp
      refine sX ?_
      simp only [AU, ↓reduceIte]
      try (simp)
      repeat (refine sR ?_; simp)
      refine sT ?_
      try simp only [AU]
      refine ⟨by simp, sF hbox htok htk.old htk.le ?_⟩
      simp [packA]
def rules3 : List ByteArray := [⟨#[109, 101, 114, 103, 101]⟩, ⟨#[112, 97, 121]⟩, ⟨#[115, 112, 108, 105, 116]⟩]
theorem rules_c (tok : Nat → Bool) (nt : Nat) : DCall Tryz.prog 27 [] tok nt (.d (strs rules3)) tok nt := by
  intro box nb
  refine sB Tryz.func27 Tryz.ntmps27 ?_
  intro hbox htok
  simp only at hbox htok
  apply AL.start
  try (simp)
  repeat (refine sR ?_; simp)
  refine ⟨rfl, ?_⟩
  try (simp)
  repeat (refine sR ?_; simp)
  refine sT ?_
  try simp only [AU]
  refine ⟨by simp, sF hbox htok (fun _ h => h) (Nat.le_refl _) ?_⟩
  simp [packA, rules3, strs]
end Go.AM
namespace Go.AM
open Go Go.Proofs
theorem md46_ok (codes : List (List Int)) {m : Nat} (h1 : 1 ≤ m) (h4 : m ≤ 10) : PrsOk (md46 codes rules3 m) ∧ (faultR (md46 codes rules3 m) [] false).2 = 0 ∧ (faultR (md46 codes rules3 m) rules3 true).2 = 0 := by
  have v1 := md46_valid (codes := codes) (rs := rules3) (rs' := []) (asked := false) h1 h4 (by decide) (by simp)
  have v2 := md46_valid (codes := codes) (rs := rules3) (rs' := rules3) (asked := true) h1 h4 (by decide) (fun _ r h => h)
  exact ⟨fault_ok (by rw [v1]), by rw [v1], by rw [v2]⟩
theorem mdN_rng (codes : List (List Int)) : 1 ≤ mdN codes ∧ mdN codes ≤ 4 := by unfold mdN; omega
set_option maxRecDepth 100000 in
theorem lawLater_c (codes : List (List Int)) (hc : CodesOk codes) (at' : Int) (ha : 0 ≤ at' ∧ at' < 256) (tok : Nat → Bool) (nt : Nat) : DCall Tryz.prog 8 [.d (codesD codes), Ub at'] tok nt (B true) tok nt := by
  intro box nb
  obtain ⟨m1, m4⟩ := mdN_rng codes
  have hmd := made46_c codes hc rules3 (by decide)
  obtain ⟨ok1, f1, g1⟩ := md46_ok codes m1 (show mdN codes ≤ 10 by omega)
  have hlen := md46_len codes rules3 (mdN codes)
  have hk : ∃ k, k < mdN codes ∧ (at'.tmod ((mdN codes : Nat) : Int)) = (k : Nat) := by
    refine ⟨(at' % (mdN codes : Nat)).toNat, ?_, ?_⟩
    · have := Int.emod_lt_of_pos at' (show 0 < ((mdN codes : Nat) : Int) by omega)
      have := Int.emod_nonneg at' (show ((mdN codes : Nat) : Int) ≠ 0 by omega)
      omega
    · rw [Int.tmod_eq_emod_of_nonneg ha.1]
      have := Int.emod_nonneg at' (show ((mdN codes : Nat) : Int) ≠ 0 by omega)
      omega
  obtain ⟨k, hkm, hkt⟩ := hk
  have hget : ∀ h : k < (md46 codes rules3 (mdN codes)).length, ((md46 codes rules3 (mdN codes))[k]'h).name = pNm k := fun h => by rw [md46_get]
  have hpl := placeR_md (codes := codes) (rs := rules3) (m := mdN codes) (j := k) (by omega) hkm
  have htk := md46_take codes rules3 (m := mdN codes) (k := k + 1) (by omega)
  obtain ⟨ok2, f2, g2⟩ := md46_ok codes (m := k + 1) (by omega) (by omega)
  rw [← htk] at ok2 f2 g2
  generalize md46 codes rules3 (mdN codes) = p at *
  generalize mdN codes = m at *
  subst hlen
  have hx := expand_later f1 f2 hpl (show k < k + 1 by omega) (by omega)
  have hu := uses_later g1 g2 hpl (show k < k + 1 by omega) (by omega)
  have hxe := expand_err f1 hpl
  have hue := uses_err g1 hpl
  have e1 := expand_c p (pNm k) ok1
  have e2 := expand_c (p.take (k + 1)) (pNm k) ok2
  have u1 := uses_c p rules3 (pNm k) ok1 (by decide)
  have u2 := uses_c (p.take (k + 1)) rules3 (pNm k) ok2 (by decide)
  have hsm := sameC_c _ (expandR p (pNm k)).1 (Nat.lt_succ_self _) (expand_sm (pNm k) ok1)
  have hul := usesR_len p rules3 (pNm k)
  rw [show rules3.length = 3 from rfl] at hul
  have he := equalS_c (usesR p rules3 (pNm k)).1 (usesR p rules3 (pNm k)).1 (by omega) (by omega)
  rw [decide_eq_true rfl] at he
  rw [hx] at e2
  rw [hu] at u2
  have hnm := named_c rules3 (by decide)
  have hru := rules_c
  have hkt2 : ((k : Nat) : Int) < (p.length : Int) := by omega
  have hwk : IntKind.i64.wrap ((k : Int) + 1) = ((k + 1 : Nat) : Int) := by rw [wrap_in (by omega) (by omega)]; rfl
  have hwa : IntKind.i64.wrap at' = at' := wrap_in (by omega) (by omega)
  have hpn := hget (by omega)
  have hpk : p[k]? = some p[k] := List.getElem?_eq_getElem (by omega)
  have hz : ((p.length : Nat) : Int) ≠ 0 := by omega
  have hk1 : k + 1 ≤ p.length := by omega
  have hk1' : (k : Int) + 1 ≤ (p.length : Int) := by omega
  have hk0 : (0 : Int) ≤ (k : Int) + 1 := by omega
  have hpe : ¬ p = [] := fun e => by subst e; simp at hz
  have hwt : IntKind.i64.wrap ((k : Nat) : Int) = (k : Nat) := wrap_in (by omega) (by omega)
  generalize expandR p (pNm k) = E at *
  generalize usesR p rules3 (pNm k) = U at *
  have htm : prsAv (p.take (k + 1)) = .agg [.d (.sl 5 (List.take (k + 1) (p.map Pr.cells)))] := by simp [List.map_take]
  rw [htm] at e2 u2
  refine sB Tryz.func8 Tryz.ntmps8 ?_
  intro hbox htok
  simp only at hbox htok
  apply AL.start
  try (simp)
  repeat (first | (refine sR ?_; simp) | (refine sC ?_; simp) | (refine sX ?_; simp only [AU, ↓reduceIte]))
  refine Stop.of_d (awake_c _ _) ?_
  simp
  try (simp)
  repeat (first | (refine sR ?_; simp) | (refine sC ?_; simp) | (refine sX ?_; simp only [AU, ↓reduceIte]))
  refine Stop.of_d (hru _ _) ?_
  simp
  try (simp)
  repeat (first | (refine sR ?_; simp) | (refine sC ?_; simp) | (refine sX ?_; simp only [AU, ↓reduceIte]))
  refine Stop.of_d (hmd _ _) ?_
  simp
  try (simp [hkt, hwa, hwk, hkt2, hz, hk1, hwt, hpk, hpn, hpe, hk1', hk0])
  repeat (first | (refine sR ?_; simp [hkt, hwa, hwk, hkt2, hz, hk1, hwt, hpk, hpn, hpe, hk1', hk0]) | (refine sC ?_; simp [hkt, hwa, hwk, hkt2, hz, hk1, hwt, hpk, hpn, hpe, hk1', hk0]) | (refine sX ?_; simp only [AU, ↓reduceIte]))
  try (simp [hpk, hpn, hkt2, hk1, hk1', hk0, hwk, List.map_take])
  repeat (refine sR ?_; simp [hpk, hpn, hkt2, hk1, hk1', hk0, hwk, List.map_take])
  refine Stop.of_d (e1 _ _) ?_
  simp
  try (simp)
  repeat (refine sR ?_; simp)
  refine Stop.of_d (e2 _ _) ?_
  simp
  try (simp)
  repeat (refine sR ?_; simp)
  refine Stop.of_d (hru _ _) ?_
  simp
  try (simp)
  repeat (refine sR ?_; simp)
  refine Stop.of_d (hnm _ _) ?_
  simp
  try (simp)
  repeat (refine sR ?_; simp)
  refine Stop.of_d (u1 _ _) ?_
  simp
  try (simp)
  repeat (refine sR ?_; simp)
  refine Stop.of_d (hru _ _) ?_
  simp
  try (simp)
  repeat (refine sR ?_; simp)
  refine Stop.of_d (hnm _ _) ?_
  simp
  try (simp)
  repeat (refine sR ?_; simp)
  refine Stop.of_d (u2 _ _) ?_
  simp
  have hu0 : (U.2 == 0) = true := by rw [beq_iff_eq]; exact hue
  rcases hxe with h | h
  · have b0 : (E.2 == 0) = true := by rw [beq_iff_eq]; exact h
    try (simp [b0, hu0, hue, h])
    repeat (first | (refine sR ?_; simp [b0, hu0, hue, h]) | (refine sC ?_; simp [b0, hu0, hue, h]) | (refine sX ?_; simp only [AU, ↓reduceIte]))
    refine Stop.of_d (hsm _ _) ?_
    simp
    try (simp [b0, hu0, hue, h])
    repeat (first | (refine sR ?_; simp [b0, hu0, hue, h]) | (refine sC ?_; simp [b0, hu0, hue, h]) | (refine sX ?_; simp only [AU, ↓reduceIte]))
    refine Stop.of_d (he _ _) ?_
    simp
    try (simp)
    repeat (first | (refine sR ?_; simp) | (refine sC ?_; simp) | (refine sX ?_; simp only [AU, ↓reduceIte]))
    refine sT ?_
    try simp only [AU]
    refine ⟨by simp, sF hbox htok (fun _ h => h) (Nat.le_refl _) ?_⟩
    simp [packA]
  · have b0 : (E.2 == 0) = false := by rw [beq_eq_false_iff_ne]; omega
    have b3 : (E.2 == 3) = true := by rw [beq_iff_eq]; exact h
    try (simp [b0, b3, hu0, hue, h])
    repeat (first | (refine sR ?_; simp [b0, b3, hu0, hue, h]) | (refine sC ?_; simp [b0, b3, hu0, hue, h]) | (refine sX ?_; simp only [AU, ↓reduceIte]))
    refine Stop.of_d (hsm _ _) ?_
    simp
    try (simp [b0, hu0, hue, h])
    repeat (first | (refine sR ?_; simp [b0, hu0, hue, h]) | (refine sC ?_; simp [b0, hu0, hue, h]) | (refine sX ?_; simp only [AU, ↓reduceIte]))
    refine Stop.of_d (he _ _) ?_
    simp
    try (simp)
    repeat (first | (refine sR ?_; simp) | (refine sC ?_; simp) | (refine sX ?_; simp only [AU, ↓reduceIte]))
    refine sT ?_
    try simp only [AU]
    refine ⟨by simp, sF hbox htok (fun _ h => h) (Nat.le_refl _) ?_⟩
    simp [packA]
end Go.AM
namespace Go.AM
open Go Go.Proofs Go.ChangeShapes
theorem u8_in {n : Int} (h : (Lit.int .u8 n).wf = true) : 0 ≤ n ∧ n < 256 := by
  simp [Lit.wf, IntKind.min, IntKind.max, IntKind.signed, IntKind.bits] at h
  omega
theorem by_u8 : Tryz.prog.bytesOf 5 = 1 := by kernel_rfl
theorem by_u8s : Tryz.prog.bytesOf 60 = 24 := by kernel_rfl
set_option maxRecDepth 100000 in
theorem arg_u8ss {ps : Array TypeId} {args : Array Value} {W : World} {base base' : Nat} {sp : Nat → Bool} {held : Bool} {H : Type} {enc : TypeId × Value → H} (hval : ∀ (j : Nat) t v, ps[j]? = some t → args[j]? = some v → Value.okWide Tryz.prog W .any base t v)
    (j : Nat) (v : Value) (hp : ps[j]? = some 49) (ha : args[j]? = some v) {d : DataW H} {p : List MemPlace} (h : DataW.Trod enc Tryz.prog W base' sp held 49 v d p) (hli : Light Tryz.prog 49 d) : ∃ l : List (List Int), CodesOk l ∧ RV G0 W (.d (codesD l)) v := by
  refine Exists.elim (arg_cell hval j 49 v hp ha rdU8ss (fun s => codesD s) aggT_49 (fun _ => rfl) h hli) fun s hs => ⟨s, ?_, hs.2⟩
  have h1 : (∀ x ∈ s, (∀ y ∈ x, (Lit.int .u8 y).wf = true) ∧ x.length * Tryz.prog.bytesOf 5 ≤ reachBytes) ∧ s.length * Tryz.prog.bytesOf 60 ≤ reachBytes := hs.1
  rw [by_u8s, by_u8, rch] at h1
  exact ⟨by omega, fun c hc => ⟨by have := (h1.1 c hc).2; omega, fun y hy => u8_in ((h1.1 c hc).1 y hy)⟩⟩
set_option maxRecDepth 100000 in
theorem arg_u8 {ps : Array TypeId} {args : Array Value} {W : World} {base base' : Nat} {sp : Nat → Bool} {held : Bool} {H : Type} {enc : TypeId × Value → H} (hval : ∀ (j : Nat) t v, ps[j]? = some t → args[j]? = some v → Value.okWide Tryz.prog W .any base t v)
    (j : Nat) (v : Value) (hp : ps[j]? = some 5) (ha : args[j]? = some v) {d : DataW H} {p : List MemPlace} (h : DataW.Trod enc Tryz.prog W base' sp held 5 v d p) (hli : Light Tryz.prog 5 d) : ∃ n : Int, (0 ≤ n ∧ n < 256) ∧ RV G0 W (.d (u8d n)) v := by
  refine Exists.elim (arg_cell hval j 5 v hp ha rdU8 (fun n => u8d n) (by kernel_rfl) (fun _ => rfl) h hli) fun g hg => ⟨g, u8_in hg.1, hg.2⟩
end Go.AM
