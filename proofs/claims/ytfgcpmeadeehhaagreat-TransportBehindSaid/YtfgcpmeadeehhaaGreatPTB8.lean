/-
 Parts of the proof, as merged from many texts: a machine over data, what the functions compute, plain laws.
-/
import Derived.Test.YtfgcpmeadeehhaaGreatPTB7
import Derived.Shelf.Spec.SlicesGrow
import Derived.Shelf.Small.Strs
import Derived.Shelf.Strings.Search1
import Derived.Shelf.Slices.Reverse
import Derived.Ground.Names2Prog
import Derived.Test.YtfgcpmeadeehhaaGreatProg
import Derived.Laws.Strings
import Derived.WideShapes
set_option linter.unusedSimpArgs false
set_option linter.unusedVariables false
namespace Go.Proofs
open Go.Shelf
def Tryz.layGrow_ren : Go.Shelf.Ren := ⟨fun | 4 => 263 | n => n, fun | 0 => 0 | 3 => 3 | 4 => 4 | 9 => 9 | 20 => 20 | 22 => 22 | 25 => 3 | n => n, fun | n => n⟩
theorem Tryz.layGrow : Go.Proofs.Lays8.n4 Tryz.prog Tryz.layGrow_ren := {
 mixed := by kernel_rfl
 f4 := ⟨Tryz.f263.name, by kernel_rfl, Tryz.func263.trans (congrArg some (by kernel_rfl))⟩
 t0 := Tryz.underlying0
 a0 := Tryz.isAgg0
 z0 := Tryz.sizeOf0
 v0 := Tryz.zeroValue0
 t3 := Tryz.underlying3
 a3 := Tryz.isAgg3
 z3 := Tryz.sizeOf3
 v3 := Tryz.zeroValue3
 t4 := Tryz.underlying4
 a4 := Tryz.isAgg4
 z4 := Tryz.sizeOf4
 v4 := Tryz.zeroValue4
 t9 := Tryz.underlying9
 a9 := Tryz.isAgg9
 z9 := Tryz.sizeOf9
 v9 := Tryz.zeroValue9
 t20 := Tryz.underlying20
 a20 := Tryz.isAgg20
 z20 := Tryz.sizeOf20
 v20 := Tryz.zeroValue20
 t22 := Tryz.underlying22
 a22 := Tryz.isAgg22
 z22 := Tryz.sizeOf22
 v22 := Tryz.zeroValue22
}
end Go.Proofs
namespace Go.AM
open Go Go.Proofs Go.RowKit Go.Lib
theorem infoInt : (Tryz.prog.info? 3).map (fun i => (i.zero, i.size, i.bytes)) = some (some (.int .i64 0), 1, 8) := by kernel_rfl
theorem rvd_nil {c : Addr → Option Value} {ps : Addr → Prop} {A : Option Addr} {cap : Nat} (h : cap ≤ maxLen) : RVd c ps (.sl 1 []) (.slice A 0 cap) :=
 .sl (es := []) (fun _ _ => default) (Nat.zero_le _) h (by simp) (by simp) (by simp) (by simp)
theorem grow_c (n : Nat) (hn : n ≤ 1000000) (tok : Tks) (nt : Nat) : DCall Tryz.prog 263 [.osl 0 [] .full, I n] tok nt (.osl 1 [] (.tok nt)) (upd tok nt true) (nt + 1) := by
 intro box nb
 refine ⟨Enters.mk Tryz.func263 rfl (by kernel_rfl), fun G w vals hm hr => ?_⟩
 obtain ⟨hlen, hrv⟩ := hr
 match vals, hlen with
 | [v, u], _ =>
  have h0 := hrv 0 (by simp) (by simp)
  have h1 := hrv 1 (by simp) (by simp)
  simp only [List.getElem_cons_zero, List.getElem_cons_succ] at h0 h1
  have hu : u = .int .i64 n := by cases h1 with | d h => cases h; rfl
  subst hu
  obtain ⟨A, rfl⟩ : ∃ A, v = .slice A 0 0 := by cases h0 with | osl h2 h3 => exact h3
  have hnt := hm.nt
  by_cases e : n = 0
  ·subst e
   refine (Any8.slices_Grow_room Tryz.layGrow A 0 0 0 w (Nat.le_refl _) (by omega) (by omega) (by omega)).mono ?_
   rintro e w' ⟨rfl, rfl⟩
   refine ⟨_, _, _, G.newtok none, rfl, ⟨rfl, rfl⟩, rfl, hm.newtok none (fun g h => by cases h), .osl (rvd_nil (by decide)) ⟨?_, fun x hx => ?_⟩, Le.newtok none, fun k hk => ⟨hk, rfl⟩⟩
   ·simp only [Gh.newtok]; rw [hnt]; exact Nat.lt_succ_self _
   ·simp only [Gh.newtok] at hx
    rw [show G.nt = nt from hnt, upd_same] at hx
    cases hx
    exact ⟨A, rfl⟩
  ·obtain ⟨i0, hi, hz0, hz1, hz2⟩ := info_parts infoInt
   have hcapge := grownCap_ge w (0 + n) 0 3
   have hcapm := grownCap_le_maxLen w (0 + n) 0 3 (by unfold maxLen; omega)
   refine (Any8.slices_Grow_grow Tryz.layGrow i0 (.int .i64 0) hi hz0 (by rw [hz1]; decide) A 0 0 n [] w (Nat.le_refl _) (by omega) (by rw [hz2]; omega) (by omega) (by simp) (fun _ => rfl) (fun a _ j v h => by simp at h)).mono ?_
   rintro e w' ⟨rfl, rfl⟩
   have hcap : grownCap w (0 + n) 0 (Tryz.layGrow_ren.t 25) = grownCap w (0 + n) 0 3 := rfl
   rw [hcap]
   generalize grownCap w (0 + n) 0 3 = cap at *
   have hms : (Builtin.zeroCells (Value.int .i64 0).cells (0 + n - 0)).size = n := by simp [size_zeroCells, Value.cells]
   have hmr : (Builtin.zeroCells (Value.int .i64 0).cells (cap - (0 + n))).size = cap - n := by simp [size_zeroCells, Value.cells]
   have hcs : ((([] : List Value).toArray ++ Builtin.zeroCells (Value.int .i64 0).cells (0 + n - 0)) ++ Builtin.zeroCells (Value.int .i64 0).cells (cap - (0 + n))).size = cap := by
    rw [Array.size_append, Array.size_append, hms, hmr]; simp; omega
   generalize ((([] : List Value).toArray ++ Builtin.zeroCells (Value.int .i64 0).cells (0 + n - 0)) ++ Builtin.zeroCells (Value.int .i64 0).cells (cap - (0 + n))) = cs at *
   have hmd := RelM.drew hm
   have hp := RelM.newpart hmd 0 cap (.cells cs (Tryz.layGrow_ren.t 25))
   have hle := Le.newpart hmd 0 cap (.cells cs (Tryz.layGrow_ren.t 25))
   have hsz : w.drew.heap.size = w.heap.size := rfl
   refine ⟨_, _, _, (G.setKind w.heap.size (.part 0 cap)).newtok (some w.heap.size), rfl, ⟨rfl, rfl⟩, rfl, hp.newtok (some w.heap.size) (fun g hg => ?_), .osl (rvd_nil hcapm) ⟨?_, fun x hx => ?_⟩, (Le.drew.trans hle).trans (Le.newtok _), fun k hk => ⟨hk, rfl⟩⟩
   ·cases hg
    refine ⟨fun t ht => ?_, 0, cs, _, .inl ?_, heap_alloc_new _ _⟩
    ·have := hm.tlt t w.heap.size ht
     omega
    ·rw [hcs]; simp [Gh.setKind, upd_same]
   ·simp only [Gh.newtok, Gh.setKind]; rw [hnt]; exact Nat.lt_succ_self _
   ·simp only [Gh.newtok, Gh.setKind] at hx
    rw [show G.nt = nt from hnt, upd_same] at hx
    cases hx
    exact ⟨cap, rfl, by simp [Gh.newtok, Gh.setKind, upd_same]⟩
end Go.AM
namespace Go.AM
open Go Go.Proofs
def flK (LL : List (List Int)) (i : Nat) : List Int := (LL.take i).flatten
theorem flK_zero (LL : List (List Int)) : flK LL 0 = [] := by simp [flK]
theorem flK_succ (LL : List (List Int)) {i : Nat} (h : i < LL.length) : flK LL (i + 1) = flK LL i ++ LL[i] := by
 simp only [flK, List.take_add_one, List.getElem?_eq_getElem h, Option.toList, List.flatten_append, List.flatten_cons, List.flatten_nil, List.append_nil]
theorem flK_le (LL : List (List Int)) (i : Nat) : (flK LL i).length ≤ LL.flatten.length := by
 have : LL.flatten = flK LL i ++ (LL.drop i).flatten := by rw [flK, ← List.flatten_append, List.take_append_drop]
 rw [this, List.length_append]; omega
def stC1 (LL : List (List Int)) (nb : Nat) (box : Bxs) (tok : Tks) (nt : Nat) (i : Nat) : AState :=
 ⟨tl [(11, I i), (10, I LL.length), (9, .d (lists LL)), (3, I (flK LL i).length), (0, .d (lists LL))], lb nb box [], tok, nt⟩
def stC2 (LL : List (List Int)) (nb : Nat) (box : Bxs) (x : Acc) : AState :=
 ⟨tl [(27, I x.i), (26, I LL.length), (25, .d (lists LL)), (6, .osl 1 (rI (flK LL x.i)) x.own)], lb nb box [], x.tok, x.nt⟩
theorem concat_c (LL : List (List Int)) (hl : LL.length ≤ 1000) (ht : LL.flatten.length ≤ 1000000) (tok : Tks) (nt : Nat) : DCall Tryz.prog 239 [.d (lists LL)] tok nt (.d (ints LL.flatten)) tok nt := by
 intro box nb
 have hfl : ∀ i, (flK LL i).length ≤ LL.flatten.length := flK_le LL
 have hall : flK LL LL.length = LL.flatten := by rw [flK, List.take_length]
 generalize LL.flatten = T at *
 have hg := grow_c T.length ht
 refine sB Tryz.func239 Tryz.ntmps239 ?_
 intro hbox htok
 simp only at hbox htok
 apply AL.start
 try (simp)
 repeat (refine sR ?_; simp)
 refine sN ?_
 refine AL.loopT (stC1 LL nb box tok nt) (fun i => i ≤ LL.length) (fun i => LL.length - i) 0 (Nat.zero_le _) (Weaks.mk (Nat.le_refl _) rfl (by simp [ToL, lk, flK_zero]) trivial) ?_
 rintro i S hi hS
 simp only [stC1] at hS
 subst hS
 have hw := sW (i := i) (by omega)
 try (simp)
 repeat (refine sR ?_; simp)
 refine sC ?_
 simp
 refine ⟨fun hlt => ?_, fun hge => ?_⟩
 ·have hs := flK_succ LL hlt
  have hle := hfl (i + 1)
  have hle0 := hfl i
  rw [hs, List.length_append] at hle
  have hw2 : IntKind.i64.wrap (↑(flK LL i).length + ↑LL[i].length) = ((flK LL (i + 1)).length : Int) := by rw [hs, List.length_append, wrap_in (by omega) (by omega)]; omega
  have hn : ¬ ((flK LL (i + 1)).length : Int) < 0 := by omega
  try (simp [hlt, hw2, hn])
  repeat (refine sR ?_; simp [hlt, hw2, hn])
  refine sC ?_
  simp
  try (simp [hw])
  repeat (refine sR ?_; simp [hw])
  refine sE ?_
  exact ⟨i + 1, hlt, by omega, Weaks.mk (Nat.le_refl _) rfl (by simp [ToL, lk]) trivial⟩
 ·refine sX ?_
  simp only [AU, ↓reduceIte]
  have : i = LL.length := by omega
  subst this
  rw [hall]
  try (simp)
  repeat (refine sR ?_; simp)
  refine Stop.of_d (hg _ _) ?_
  simp
  try (simp)
  repeat (refine sR ?_; simp)
  refine sN ?_
  have htk := (TK.start htok).full.app
  refine AL.loopT (stC2 LL nb box) (fun x => x.i ≤ LL.length ∧ TK tok nt x.tok x.nt [x.own]) (fun x => LL.length - x.i) ⟨0, _, _, _⟩ ⟨Nat.zero_le _, htk⟩ (Weaks.mk htk.le rfl (by simp [ToL, lk, flK_zero]) trivial) ?_
  rintro ⟨i, own, tok', nt'⟩ S ⟨hi, htk⟩ hS
  simp only [stC2] at hS hi htk
  subst hS
  have hw := sW (i := i) (by omega)
  try (simp)
  repeat (refine sR ?_; simp)
  refine sC ?_
  simp
  refine ⟨fun hlt => ?_, fun hge => ?_⟩
  ·have hs := flK_succ LL hlt
   have hle := hfl (i + 1)
   rw [hs, List.length_append] at hle
   try (simp [hlt])
   repeat (refine sR ?_; simp [hlt])
   refine ⟨⟨by omega, htk.live⟩, ?_⟩
   try (simp [hw])
   repeat (refine sR ?_; simp [hw])
   refine sE ?_
   exact ⟨⟨i + 1, _, _, _⟩, ⟨hlt, htk.app⟩, by simp only; omega, Weaks.mk htk.app.le rfl (by simp [ToL, lk, hs]) trivial⟩
  ·refine sX ?_
   simp only [AU, ↓reduceIte]
   have : i = LL.length := by omega
   subst this
   rw [hall]
   try (simp)
   repeat (refine sR ?_; simp)
   refine sT ?_
   try simp only [AU]
   refine ⟨by simp, sF hbox htok htk.old htk.le ?_⟩
   simp [packA, ]
theorem concat2_c (a b : List Int) (ht : a.length + b.length ≤ 1000000) (tok : Tks) (nt : Nat) : DCall Tryz.prog 239 [.d (lists [a, b])] tok nt (.d (ints (a ++ b))) tok nt := by
 have := concat_c [a, b] (by simp) (by simpa using ht) tok nt
 simpa using this
end Go.AM
namespace Go.AM
open Go Go.Proofs
def stGN (n k : Nat) (nb : Nat) (box : Bxs) (x : Acc) : AState := ⟨tl [(8, I x.i), (7, I k), (5, .osl 1 (rI (iotaF n x.i)) x.own), (0, I n)], lb nb box [], x.tok, x.nt⟩
theorem gnumbers_c (n k : Nat) (hn : n ≤ 1000000) (hk : k ≤ 1000000) (tok : Tks) (nt : Nat) : DCall Tryz.prog 240 [I n, I k] tok nt (.d (ints (iotaF n k))) tok nt := by
 intro box nb
 refine sB Tryz.func240 Tryz.ntmps240 ?_
 intro hbox htok
 simp only at hbox htok
 apply AL.start
 try (simp)
 repeat (refine sR ?_; simp)
 refine sN ?_
 refine AL.loopT (stGN n k nb box) (fun x => x.i ≤ k ∧ TK tok nt x.tok x.nt [x.own]) (fun x => k - x.i) ⟨0, .full, tok, nt⟩ ⟨Nat.zero_le _, (TK.start htok).full⟩ (Weaks.mk (Nat.le_refl _) rfl (by simp [ToL, lk, iotaF_zero]) trivial) ?_
 rintro ⟨i, own, tok', nt'⟩ S ⟨hi, htk⟩ hS
 simp only [stGN] at hS hi htk
 subst hS
 have hw := sW (i := i) (by omega)
 have hw2 : IntKind.i64.wrap (↑n + ↑i) = ((n + i : Nat) : Int) := by rw [wrap_in (by omega) (by omega)]; omega
 have hl := iotaF_len n i
 have hs := iotaF_succ n i
 try (simp)
 repeat (refine sR ?_; simp)
 refine sC ?_
 simp
 refine ⟨fun hlt => ?_, fun hge => ?_⟩
 ·try (simp [hw2])
  repeat (refine sR ?_; simp [hw2])
  refine ⟨⟨by omega, htk.live⟩, ?_⟩
  try (simp [hw])
  repeat (refine sR ?_; simp [hw])
  refine sE ?_
  exact ⟨⟨i + 1, _, _, _⟩, ⟨hlt, htk.app⟩, by simp only; omega, Weaks.mk htk.app.le rfl (by simp [ToL, lk, hs]) trivial⟩
 ·refine sX ?_
  simp only [AU, ↓reduceIte]
  have : i = k := by omega
  subst this
  try (simp)
  repeat (refine sR ?_; simp)
  refine sT ?_
  try simp only [AU]
  refine ⟨by simp, sF hbox htok htk.old htk.le ?_⟩
  simp [packA, ]
def folK (l h : List Int) (i : Nat) : List Int := byK l h i ++ List.replicate (l.length - i) 0
theorem folK_len (l h : List Int) {i : Nat} (hi : i ≤ l.length) : (folK l h i).length = l.length := by simp [folK, byK]; omega
theorem folK_set (l h : List Int) {i : Nat} (hi : i < l.length) (h2 : l[i].toNat < h.length) : (folK l h i).set i h[l[i].toNat] = folK l h (i + 1) := by
 unfold folK
 have e : (byK l h i).length = i := by simp [byK]; omega
 have e2 : l.length - i = (l.length - (i + 1)) + 1 := by omega
 rw [List.set_append, e, if_neg (by omega), Nat.sub_self, e2, List.replicate_succ, List.set_cons_zero, byK_succ l h hi]
 simp [h2]
def stFw (l h : List Int) (nb : Nat) (box : Bxs) (tok : Tks) (nt : Nat) (i : Nat) : AState :=
 ⟨tl [(13, I i), (12, I l.length), (11, .d (ints l)), (5, .msl (nb + 10) 0 l.length 1), (1, .d (ints h))], lb nb box [(10, rowsI (folK l h i))], tok, nt⟩
theorem follow_c (l h : List Int) (hl : l.length ≤ 1000000) (hr : ∀ x ∈ l, 0 ≤ x ∧ x < h.length) (tok : Tks) (nt : Nat) : DCall Tryz.prog 243 [.d (ints l), .d (ints h)] tok nt (.d (ints (byK l h l.length))) tok nt := by
 intro box nb
 refine sB Tryz.func243 Tryz.ntmps243 ?_
 intro hbox htok
 simp only at hbox htok
 apply AL.start
 try (simp)
 repeat (refine sR ?_; simp)
 refine ⟨by omega, ?_⟩
 try (simp)
 repeat (refine sR ?_; simp)
 refine sN ?_
 refine AL.loopT (stFw l h nb box tok nt) (fun i => i ≤ l.length) (fun i => l.length - i) 0 (Nat.zero_le _) (Weaks.mk (Nat.le_refl _) rfl (by simp [ToL, lk]) (by simp [BoxL, lk, folK, byK_zero])) ?_
 rintro i S hi hS
 simp only [stFw] at hS
 subst hS
 have hw := sW (i := i) (by omega)
 have hfl := folK_len l h hi
 try (simp)
 repeat (refine sR ?_; simp)
 refine sC ?_
 simp
 refine ⟨fun hlt => ?_, fun hge => ?_⟩
 ·obtain ⟨x0, x1⟩ := hr _ (List.getElem_mem hlt)
  have x2 : l[i].toNat < h.length := by omega
  have hst := folK_set l h hlt x2
  try (simp [hlt, x0, x1, x2, hfl, hw])
  repeat (refine sR ?_; simp [hlt, x0, x1, x2, hfl, hw])
  refine sE ?_
  exact ⟨i + 1, hlt, by omega, Weaks.mk (Nat.le_refl _) rfl (by simp [ToL, lk]) (by simp [BoxL, lk, hst])⟩
 ·refine sX ?_
  simp only [AU, ↓reduceIte]
  have : i = l.length := by omega
  subst this
  have hall : folK l h l.length = byK l h l.length := by simp [folK]
  rw [hall]
  have hbl : (byK l h l.length).length = l.length := byK_all l h
  refine AL.weak (Weaks.frz (l' := [(5, .d (ints (byK l h l.length)))]) (loc' := []) 10 1 (rI (byK l h l.length)) (Nat.le_refl _) rfl (by simp [lk, rowsI_eq]) (by simp [lk]) (by simp) (by simp [ToL, hbl]) (by simp [BoxL])) ?_
  try (simp)
  repeat (refine sR ?_; simp)
  refine sT ?_
  try simp only [AU]
  refine ⟨by simp, sF hbox htok (fun _ h => h) (Nat.le_refl _) ?_⟩
  simp [packA]
def stPp (F G A C : List Int) (n1 : Nat) (nb : Nat) (box : Bxs) (x : Acc) : AState :=
 ⟨tl [(13, I x.i), (12, I F.length), (9, .osl 2 ((prK n1 F G x.i).map fun p => [D.raw (.int .i64 p.1), D.raw (.int .i64 p.2)]) x.own), (0, .d (ints F)), (1, .d (ints G)), (2, .d (ints A)), (3, .d (ints C))], lb nb box [], x.tok, x.nt⟩
theorem ppairs_c (F G A C : List Int) (n1 : Nat) (hl : F.length = G.length) (hF : F.length ≤ 1000000) (h1 : ∀ x ∈ F, 0 ≤ x ∧ x < n1) (h2 : ∀ x ∈ G, 0 ≤ x ∧ x < C.length) (hA : A = iota n1) (hC : C = iotaF n1 C.length) (tok : Tks) (nt : Nat) :
  DCall Tryz.prog 204 [.d (ints F), .d (ints G), .d (ints A), .d (ints C)] tok nt (.d (prs (prK n1 F G F.length))) tok nt := by
 intro box nb
 refine sB Tryz.func204 Tryz.ntmps204 ?_
 intro hbox htok
 simp only at hbox htok
 apply AL.start
 try (simp)
 repeat (refine sR ?_; simp)
 refine sN ?_
 have Al : A.length = n1 := by rw [hA, iota_len]
 refine AL.loopT (stPp F G A C n1 nb box) (fun x => x.i ≤ F.length ∧ TK tok nt x.tok x.nt [x.own]) (fun x => F.length - x.i) ⟨0, .full, tok, nt⟩ ⟨Nat.zero_le _, (TK.start htok).full⟩ (Weaks.mk (Nat.le_refl _) rfl (by simp [ToL, lk, prK]) trivial) ?_
 rintro ⟨i, own, tok', nt'⟩ S ⟨hi, htk⟩ hS
 simp only [stPp] at hS hi htk
 subst hS
 have hw := sW (i := i) (by omega)
 have hpl := prK_len n1 F G i
 have hsc := prK_succ n1 F G i
 try (simp)
 repeat (refine sR ?_; simp)
 refine sC ?_
 simp
 refine ⟨fun hlt => ?_, fun hge => ?_⟩
 ·have hig : i < G.length := by omega
  have e1 : F.getD i 0 = F[i] := by simp [hlt]
  have e2 : G.getD i 0 = G[i] := by simp [hig]
  obtain ⟨a0, a1⟩ := h1 _ (List.getElem_mem hlt)
  obtain ⟨c0, c1⟩ := h2 _ (List.getElem_mem hig)
  have a2 : F[i].toNat < A.length := by omega
  have c2 : G[i].toNat < C.length := by omega
  have a3 : A[F[i].toNat] = F[i] := by
   have : A.getD F[i].toNat 0 = F[i].toNat := by rw [hA]; exact iota_getD (by omega)
   rw [List.getD_eq_getElem?_getD, List.getElem?_eq_getElem a2, Option.getD_some] at this
   omega
  have c3 : C[G[i].toNat] = (n1 : Int) + G[i] := by
   have : C.getD G[i].toNat 0 = ((n1 + G[i].toNat : Nat) : Int) := by rw [hC]; exact iotaF_get (by omega)
   rw [List.getD_eq_getElem?_getD, List.getElem?_eq_getElem c2, Option.getD_some] at this
   omega
  rw [e1, e2] at hsc
  rw [← Al] at a1
  try (simp [hlt, hig, a0, a1, a2, a3, c0, c1, c2, c3])
  repeat (refine sR ?_; simp [hlt, hig, a0, a1, a2, a3, c0, c1, c2, c3])
  refine ⟨⟨by omega, htk.live⟩, ?_⟩
  try (simp [hw])
  repeat (refine sR ?_; simp [hw])
  refine sE ?_
  exact ⟨⟨i + 1, _, _, _⟩, ⟨hlt, htk.app⟩, by simp only; omega, Weaks.mk htk.app.le rfl (by simp [ToL, lk, hsc]) trivial⟩
 ·refine sX ?_
  simp only [AU, ↓reduceIte]
  have : i = F.length := by omega
  subst this
  try (simp)
  repeat (refine sR ?_; simp)
  refine sT ?_
  try simp only [AU]
  refine ⟨by simp, sF hbox htok htk.old htk.le ?_⟩
  simp [packA, ]
def stU1 (b c : Gr) (nb : Nat) (box : Bxs) (tok : Tks) (nt : Nat) (i : Nat) : AState :=
 ⟨tl [(22, I i), (21, I 2), (20, .osl 2 [[ints b.nodes, AM.edges b.edges], [ints c.nodes, AM.edges c.edges]] .full), (7, I 0), (6, .ptr (nb + 6) 0 0), (5, .ptr (nb + 5) 0 0), (4, .ptr (nb + 4) 0 0), (3, .ptr (nb + 3) 0 0), (2, .ptr (nb + 2) 0 0)],
  lb nb box [(3, [[.d (ints c.nodes), .d (AM.edges c.edges)]]), (2, [[.d (ints b.nodes), .d (AM.edges b.edges)]]), (6, [[.bot, .bot]]), (5, [[.bot, .bot]]), (4, [[.bot, .bot]])], tok, nt⟩
def stU2 (b c : Gr) (N : List Int) (nb : Nat) (box : Bxs) (x : Acc) : AState :=
 ⟨tl [(71, I x.i), (70, I c.edges.length), (69, .d (AM.edges c.edges)), (13, .ptr (nb + 13) 0 0), (12, I b.edges.length), (11, I b.nodes.length), (6, .ptr (nb + 6) 0 0), (5, .ptr (nb + 5) 0 0), (4, .ptr (nb + 4) 0 0), (3, .ptr (nb + 3) 0 0)],
  lb nb box [(13, [[.d (ints N), .osl 3 (rE (unE b c x.i)) x.own]]), (3, [[.d (ints c.nodes), .d (AM.edges c.edges)]]), (6, [[.bot, .bot]]), (5, [[.bot, .bot]]), (4, [[.bot, .bot]])], x.tok, x.nt⟩
theorem union_c (b c : Gr) (hb : b.Fit) (hc : c.Fit) (vb : validG b = 0) (vc : validG c = 0) (tok : Tks) (nt : Nat) : DCall Tryz.prog 202 [b.av, c.av] tok nt
  (if 40 < b.nodes.length + c.nodes.length ∨ 80 < b.edges.length + c.edges.length then .tup [Gr.av ⟨[], []⟩, Mo.av ⟨[], []⟩, Mo.av ⟨[], []⟩, I 3]
   else .tup [(unG b c).av, (idM b).av, Mo.av ⟨iotaF b.nodes.length c.nodes.length, iotaF b.edges.length c.edges.length⟩, I 0]) tok nt := by
 intro box nb
 have hb1 := graphValid_c b hb
 have hc1 := graphValid_c c hc
 refine sB Tryz.func202 Tryz.ntmps202 ?_
 intro hbox htok
 simp only at hbox htok
 apply AL.start
 try (simp)
 repeat (refine sR ?_; simp)
 refine ⟨rfl, ?_⟩
 refine sN ?_
 refine AL.loopT (stU1 b c nb box tok nt) (fun i => i ≤ 2) mu13 0 (by omega) (Weaks.mk (Nat.le_refl _) rfl (by simp [ToL, lk]) (by simp [BoxL, lk])) ?_
 rintro i S hi hS
 simp only [stU1] at hS
 subst hS
 try (simp)
 repeat (refine sR ?_; simp)
 refine sC ?_
 simp
 have h012 : i = 0 ∨ i = 1 ∨ i = 2 := by omega
 rcases h012 with rfl | rfl | rfl
 ·simp
  try (simp)
  repeat (refine sR ?_; simp)
  refine Stop.of_d (hb1 _ _) ?_
  simp
  try (simp [vb])
  repeat (refine sR ?_; simp [vb])
  refine sC ?_
  simp
  try (simp [show IntKind.i64.wrap 1 = 1 from rfl])
  repeat (refine sR ?_; simp [show IntKind.i64.wrap 1 = 1 from rfl])
  refine sE ?_
  exact ⟨1, by omega, by decide, Weaks.mk (Nat.le_refl _) rfl (by simp [ToL, lk]) (by simp [BoxL, lk])⟩
 ·simp
  try (simp)
  repeat (refine sR ?_; simp)
  refine Stop.of_d (hc1 _ _) ?_
  simp
  try (simp [vc])
  repeat (refine sR ?_; simp [vc])
  refine sC ?_
  simp
  try (simp [show IntKind.i64.wrap 2 = 2 from rfl])
  repeat (refine sR ?_; simp [show IntKind.i64.wrap 2 = 2 from rfl])
  refine sE ?_
  exact ⟨2, by omega, by decide, Weaks.mk (Nat.le_refl _) rfl (by simp [ToL, lk]) (by simp [BoxL, lk])⟩
 ·simp
  refine sX ?_
  simp only [AU, ↓reduceIte]
  have hbn := hb.n
  have hbe := hb.e
  have hcn := hc.n
  have hce := hc.e
  have w1 : IntKind.i64.wrap (↑b.nodes.length + ↑c.nodes.length) = (b.nodes.length : Int) + c.nodes.length := wrap_in (by omega) (by omega)
  have w2 : IntKind.i64.wrap (↑b.edges.length + ↑c.edges.length) = (b.edges.length : Int) + c.edges.length := wrap_in (by omega) (by omega)
  have hcl := cloneE_c b.edges (by omega)
  by_cases h1 : (40 : Int) < (b.nodes.length : Int) + c.nodes.length
  ·have hcc : 40 < b.nodes.length + c.nodes.length ∨ 80 < b.edges.length + c.edges.length := .inl (by omega)
   try (simp [w1, h1])
   repeat (refine sR ?_; simp [w1, h1])
   refine sC ?_
   simp
   try (simp)
   repeat (refine sR ?_; simp)
   refine sT ?_
   try simp only [AU]
   refine ⟨by simp, sF hbox htok (fun _ h => h) (Nat.le_refl _) ?_⟩
   simp [packA, hcc, ints, AM.edges]
  ·by_cases h2 : (80 : Int) < (b.edges.length : Int) + c.edges.length
   ·have hcc : 40 < b.nodes.length + c.nodes.length ∨ 80 < b.edges.length + c.edges.length := .inr (by omega)
    try (simp [w1, h1, w2, h2])
    repeat (refine sR ?_; simp [w1, h1, w2, h2])
    refine sC ?_
    simp
    try (simp)
    repeat (refine sR ?_; simp)
    refine sT ?_
    try simp only [AU]
    refine ⟨by simp, sF hbox htok (fun _ h => h) (Nat.le_refl _) ?_⟩
    simp [packA, hcc, ints, AM.edges]
   ·have hcc : ¬ (40 < b.nodes.length + c.nodes.length ∨ 80 < b.edges.length + c.edges.length) := by omega
    try (simp [w1, h1, w2, h2])
    repeat (refine sR ?_; simp [w1, h1, w2, h2])
    refine sC ?_
    simp
    have hcat := concat2_c b.nodes c.nodes (by omega)
    have hcc2 : ¬ 40 < b.nodes.length + c.nodes.length := by omega
    have hcc3 : ¬ 80 < b.edges.length + c.edges.length := by omega
    obtain ⟨N, hN⟩ : ∃ N, b.nodes ++ c.nodes = N := ⟨_, rfl⟩
    rw [hN] at hcat
    have hu : unG b c = ⟨N, unE b c c.edges.length⟩ := by rw [← hN]; simp [unG, unE]
    try (simp)
    repeat (refine sR ?_; simp)
    refine ⟨rfl, ?_⟩
    refine Stop.data ?_
    refine Stop.of_d (hcat _ _) ?_
    simp
    try (simp)
    repeat (refine sR ?_; simp)
    refine Stop.of_d (hcl _ _) ?_
    simp
    try (simp)
    repeat (refine sR ?_; simp)
    refine sN ?_
    have htk := (TK.start htok).full.app
    refine AL.loopT (stU2 b c N nb box) (fun x => x.i ≤ c.edges.length ∧ TK tok nt x.tok x.nt [x.own]) (fun x => c.edges.length - x.i) ⟨0, _, _, _⟩ ⟨Nat.zero_le _, htk⟩ (Weaks.mk htk.le rfl (by simp [ToL, lk]) (by simp [BoxL, lk, unE])) ?_
    rintro ⟨i, o2, tok', nt'⟩ S ⟨hi, htk⟩ hS
    simp only [stU2] at hS hi htk
    subst hS
    have hw := sW (i := i) (by omega)
    have hul := unE_len b c i
    have hec := validG_edges vc
    try (simp)
    repeat (refine sR ?_; simp)
    refine sC ?_
    simp
    refine ⟨fun hlt => ?_, fun hge => ?_⟩
    ·have hus := unE_succ b c hlt
     obtain ⟨e1, e2, e3, e4⟩ := hec _ (List.getElem_mem hlt)
     have x1 : IntKind.i64.wrap (c.edges[i].fr + ↑b.nodes.length) = c.edges[i].fr + b.nodes.length := wrap_in (by omega) (by omega)
     have x2 : IntKind.i64.wrap (c.edges[i].to + ↑b.nodes.length) = c.edges[i].to + b.nodes.length := wrap_in (by omega) (by omega)
     try (simp [hlt, x1, x2])
     repeat (refine sR ?_; simp [hlt, x1, x2])
     refine ⟨⟨by omega, htk.live⟩, ?_⟩
     try (simp [hw])
     repeat (refine sR ?_; simp [hw])
     refine sE ?_
     exact ⟨⟨i + 1, _, _, _⟩, ⟨hlt, htk.app⟩, by simp only; omega, Weaks.mk htk.app.le rfl (by simp [ToL, lk]) (by simp [BoxL, lk, hus, shE])⟩
    ·refine sX ?_
     simp only [AU, ↓reduceIte]
     have : i = c.edges.length := by omega
     subst this
     have n1 : ∀ tok nt, DCall Tryz.prog 240 [I 0, I b.nodes.length] tok nt (.d (ints (iota b.nodes.length))) tok nt := by rw [← iotaF_iota]; exact gnumbers_c 0 b.nodes.length (by omega) (by omega)
     have n2 : ∀ tok nt, DCall Tryz.prog 240 [I 0, I b.edges.length] tok nt (.d (ints (iota b.edges.length))) tok nt := by rw [← iotaF_iota]; exact gnumbers_c 0 b.edges.length (by omega) (by omega)
     have n3 := gnumbers_c b.nodes.length c.nodes.length (by omega) (by omega)
     have n4 := gnumbers_c b.edges.length c.edges.length (by omega) (by omega)
     try (simp)
     repeat (refine sR ?_; simp)
     refine Stop.of_d (n1 _ _) ?_
     simp
     try (simp)
     repeat (refine sR ?_; simp)
     refine Stop.of_d (n2 _ _) ?_
     simp
     try (simp)
     repeat (refine sR ?_; simp)
     refine Stop.of_d (n3 _ _) ?_
     simp
     try (simp)
     repeat (refine sR ?_; simp)
     refine Stop.of_d (n4 _ _) ?_
     simp
     refine sN ?_
     refine AL.region2 follows_Tryz (Nat.le_refl _) (by kernel_rfl) (Side.of (by simp)) ?_
     simp
     refine sT ?_
     try simp only [AU]
     refine ⟨by simp, sF hbox htok htk.old htk.le ?_⟩
     simp [packA, hcc, hu, idM]
def stPq1 (a : Gr) (L1 L2 q1 q2 : List Int) (nb : Nat) (box : Bxs) (x : Acc) : AState :=
 ⟨tl [(64, I x.i), (63, I L1.length), (62, .d (ints L1)), (18, .ptr (nb + 18) 0 0), (15, .d (ints q2)), (12, .d (ints q1)), (11, .d (ints L2)), (7, .ptr (nb + 7) 0 0), (6, .ptr (nb + 6) 0 0), (3, .ptr (nb + 3) 0 0)],
  lb nb box [(18, [[.osl 1 (rI (repN a.nodes L1 x.i)) x.own, .osl 0 [] .full]]), (3, [[.d (ints a.nodes), .d (AM.edges a.edges)]]), (7, [[.bot, .bot]]), (6, [[.bot, .bot]])], x.tok, x.nt⟩
def stPq2 (a : Gr) (L1 L2 q1 q2 : List Int) (nb : Nat) (box : Bxs) (x : Acc) : AState :=
 ⟨tl [(85, I x.i), (84, I L2.length), (83, .d (ints L2)), (18, .ptr (nb + 18) 0 0), (15, .d (ints q2)), (12, .d (ints q1)), (7, .ptr (nb + 7) 0 0), (6, .ptr (nb + 6) 0 0), (3, .ptr (nb + 3) 0 0)],
  lb nb box [(18, [[.d (ints (repN a.nodes L1 L1.length)), .osl 3 (rE (repE a.edges q1 L2 x.i)) x.own]]), (3, [[.d (ints a.nodes), .d (AM.edges a.edges)]]), (7, [[.bot, .bot]]), (6, [[.bot, .bot]])], x.tok, x.nt⟩
theorem pquotient_c (a : Gr) (pn pe : List (Int × Int)) (L1 L2 : List Int) (ha : a.Fit) (g1 : ∀ tok nt, DCall Tryz.prog 241 [I a.nodes.length, .d (prs pn)] tok nt (.tup [.d (ints L1), I 0]) tok nt) (g2 : ∀ tok nt, DCall Tryz.prog 241 [I a.edges.length, .d (prs pe)] tok nt (.tup [.d (ints L2), I 0]) tok nt)
  (hl : L1.length = a.nodes.length) (hk : L2.length = a.edges.length) (h80 : a.nodes.length ≤ 80 ∧ a.edges.length ≤ 80) (hpl : PartL L1) (hpk : PartL L2) (hx : EOk a) (tok : Tks) (nt : Nat) :
  DCall Tryz.prog 203 [a.av, .d (prs pn), .d (prs pe)] tok nt (.tup [(quot a L1 L2).g.av, (quot a L1 L2).o.av, I 0]) tok nt := by
 intro box nb
 have q1 := quotient86_c L1 (by omega) hpl
 have q2 := quotient86_c L2 (by omega) hpk
 refine sB Tryz.func203 Tryz.ntmps203 ?_
 intro hbox htok
 simp only at hbox htok
 apply AL.start
 try (simp)
 repeat (refine sR ?_; simp)
 refine Stop.of_d (g1 _ _) ?_
 simp
 try (simp)
 repeat (refine sR ?_; simp)
 refine sC ?_
 simp
 try (simp)
 repeat (refine sR ?_; simp)
 refine Stop.of_d (g2 _ _) ?_
 simp
 try (simp)
 repeat (refine sR ?_; simp)
 refine sC ?_
 simp
 try (simp)
 repeat (refine sR ?_; simp)
 refine Stop.of_d (q1 _ _) ?_
 simp
 try (simp)
 repeat (refine sR ?_; simp)
 refine Stop.of_d (q2 _ _) ?_
 simp
 try (simp)
 repeat (refine sR ?_; simp)
 refine sN ?_
 have han := ha.n
 have hae := ha.e
 have hnl := numN_len L1 L1.length
 have hnk := numN_len L2 L2.length
 have hqt : quot a L1 L2 = ⟨⟨repN a.nodes L1 L1.length, repE a.edges (numN L1 L1.length).1 L2 L2.length⟩, ⟨(numN L1 L1.length).1, (numN L2 L2.length).1⟩⟩ := rfl
 rw [hqt]
 generalize (numN L1 L1.length).1 = q1n at *
 generalize (numN L2 L2.length).1 = q2n at *
 refine AL.loopT (stPq1 a L1 L2 q1n q2n nb box) (fun x => x.i ≤ L1.length ∧ TK tok nt x.tok x.nt [x.own]) (fun x => L1.length - x.i) ⟨0, .full, tok, nt⟩ ⟨Nat.zero_le _, (TK.start htok).full⟩ (Weaks.mk (Nat.le_refl _) rfl (by simp [ToL, lk]) (by simp [BoxL, lk, repN])) ?_
 rintro ⟨i, own, tok', nt'⟩ S ⟨hi, htk⟩ hS
 simp only [stPq1] at hS hi htk
 subst hS
 have hw := sW (i := i) (by omega)
 have hln := repN_len a.nodes L1 i
 try (simp)
 repeat (refine sR ?_; simp)
 refine sC ?_
 simp
 refine ⟨fun hlt => ?_, fun hge => ?_⟩
 ·have hlb : i < a.nodes.length := by omega
  try (simp [hlt])
  repeat (refine sR ?_; simp [hlt])
  refine sC ?_
  simp
  refine ⟨fun he => ?_, fun hne => ?_⟩
  ·try (simp [hlb])
   repeat (refine sR ?_; simp [hlb])
   refine ⟨⟨by omega, htk.live⟩, ?_⟩
   try (simp [hw])
   repeat (refine sR ?_; simp [hw])
   refine sE ?_
   exact ⟨⟨i + 1, _, _, _⟩, ⟨hlt, htk.app⟩, by simp only; omega, Weaks.mk htk.app.le rfl (by simp [ToL, lk]) (by simp [BoxL, lk, repN, hlt, hlb, he])⟩
  ·try (simp [hw])
   repeat (refine sR ?_; simp [hw])
   refine sE ?_
   exact ⟨⟨i + 1, own, tok', nt'⟩, ⟨hlt, htk⟩, by simp only; omega, Weaks.mk htk.le rfl (by simp [ToL, lk]) (by simp [BoxL, lk, repN, hlt, hlb, hne])⟩
 ·refine sX ?_
  simp only [AU, ↓reduceIte]
  have : i = L1.length := by omega
  subst this
  try (simp)
  repeat (refine sR ?_; simp)
  refine sN ?_
  have htk2 := htk.tail.full
  refine AL.loopT (stPq2 a L1 L2 q1n q2n nb box) (fun x => x.i ≤ L2.length ∧ TK tok nt x.tok x.nt [x.own]) (fun x => L2.length - x.i) ⟨0, .full, tok', nt'⟩ ⟨Nat.zero_le _, htk2⟩ (Weaks.mk htk2.le rfl (by simp [ToL, lk]) (by simp [BoxL, lk, repE])) ?_
  rintro ⟨i, own2, tok', nt'⟩ S ⟨hi, htk⟩ hS
  simp only [stPq2] at hS hi htk
  subst hS
  have hw := sW (i := i) (by omega)
  have hle := repE_len a.edges q1n L2 i
  try (simp)
  repeat (refine sR ?_; simp)
  refine sC ?_
  simp
  refine ⟨fun hlt => ?_, fun hge => ?_⟩
  ·have hlb : i < a.edges.length := by omega
   obtain ⟨x1, x2, x3, x4⟩ := hx _ (List.getElem_mem hlb)
   have hq1 : q1n.length = a.nodes.length := by omega
   have y1 : a.edges[i].fr.toNat < q1n.length := by omega
   have y2 : a.edges[i].to.toNat < q1n.length := by omega
   rw [← hq1] at x2 x4
   try (simp [hlt])
   repeat (refine sR ?_; simp [hlt])
   refine sC ?_
   simp
   refine ⟨fun he => ?_, fun hne => ?_⟩
   ·try (simp [hlb, x1, x2, x3, x4, y1, y2])
    repeat (refine sR ?_; simp [hlb, x1, x2, x3, x4, y1, y2])
    refine ⟨⟨by omega, htk.live⟩, ?_⟩
    try (simp [hw])
    repeat (refine sR ?_; simp [hw])
    refine sE ?_
    exact ⟨⟨i + 1, _, _, _⟩, ⟨hlt, htk.app⟩, by simp only; omega, Weaks.mk htk.app.le rfl (by simp [ToL, lk]) (by simp [BoxL, lk, repE, hlt, hlb, he, y1, y2])⟩
   ·try (simp [hw])
    repeat (refine sR ?_; simp [hw])
    refine sE ?_
    exact ⟨⟨i + 1, own2, tok', nt'⟩, ⟨hlt, htk⟩, by simp only; omega, Weaks.mk htk.le rfl (by simp [ToL, lk]) (by simp [BoxL, lk, repE, hlt, hlb, hne])⟩
  ·refine sX ?_
   simp only [AU, ↓reduceIte]
   have : i = L2.length := by omega
   subst this
   try (simp)
   repeat (refine sR ?_; simp)
   refine sT ?_
   try simp only [AU]
   refine ⟨by simp, sF hbox htok htk.old htk.le ?_⟩
   simp [packA, ]
end Go.AM
namespace Go.AM
open Go Go.Proofs
theorem pthen_c (m n : Mo) (hm : m.Fit) (hn : ∀ x ∈ m.nodes, 0 ≤ x ∧ x < n.nodes.length) (he : ∀ x ∈ m.edges, 0 ≤ x ∧ x < n.edges.length) (tok : Tks) (nt : Nat) : DCall Tryz.prog 205 [m.av, n.av] tok nt (thenM m n).av tok nt := by
 intro box nb
 have h1 := follow_c m.nodes n.nodes hm.n hn
 have h2 := follow_c m.edges n.edges hm.e he
 refine sB Tryz.func205 Tryz.ntmps205 ?_
 intro hbox htok
 simp only at hbox htok
 apply AL.start
 try (simp)
 repeat (refine sR ?_; simp)
 refine Stop.of_d (h1 _ _) ?_
 simp
 try (simp)
 repeat (refine sR ?_; simp)
 refine Stop.of_d (h2 _ _) ?_
 simp
 try (simp)
 repeat (refine sR ?_; simp)
 refine sT ?_
 try simp only [AU]
 refine ⟨by simp, sF hbox htok (fun _ h => h) (Nat.le_refl _) ?_⟩
 simp [packA, thenM]
theorem pspan_c (a b c : Gr) (f g : Mo) (ha : a.Fit) (hb : b.Fit) (hc : c.Fit) (hf : validM a b f = 0) (hg : validM a c g = 0) (tok : Tks) (nt : Nat) : DCall Tryz.prog 142 [spanAv a b c f g] tok nt (I 0) tok nt := by
 intro box nb
 have h1 := valid51_c a b f ha hb
 have h2 := valid51_c a c g ha hc
 rw [hf] at h1
 rw [hg] at h2
 refine sB Tryz.func142 Tryz.ntmps142 ?_
 intro hbox htok
 simp only at hbox htok
 apply AL.start
 try (simp)
 repeat (refine sR ?_; simp)
 refine Stop.of_d (h1 _ _) ?_
 simp
 try (simp)
 repeat (refine sR ?_; simp)
 refine sC ?_
 simp
 try (simp)
 repeat (refine sR ?_; simp)
 refine Stop.of_d (h2 _ _) ?_
 simp
 try (simp)
 repeat (refine sR ?_; simp)
 refine sT ?_
 try simp only [AU]
 refine ⟨by simp, sF hbox htok (fun _ h => h) (Nat.le_refl _) ?_⟩
 simp [packA]
theorem pglue_c (a b c : Gr) (f g : Mo) (hf : Emb a b f) (hg : Emb a c g) (tok : Tks) (nt : Nat) :
  DCall Tryz.prog 143 [spanAv a b c f g] tok nt (.tup [(pushR b c f g).1.g.av, (pushR b c f g).1.l.av, (pushR b c f g).1.r.av, I (pushR b c f g).2]) tok nt := by
 intro box nb
 obtain ⟨ff, fa, fb⟩ := hf.fit
 obtain ⟨fg, _, fc⟩ := hg.fit
 have v := hf.vm
 have w := hg.vm
 have hun := union_c b c fb fc v.vb w.vb
 refine sB Tryz.func143 Tryz.ntmps143 ?_
 intro hbox htok
 simp only at hbox htok
 apply AL.start
 try (simp)
 repeat (refine sR ?_; simp)
 refine Stop.of_d (hun _ _) ?_
 simp
 by_cases hb : poBig b c
 ·have hb' : 40 < b.nodes.length + c.nodes.length ∨ 80 < b.edges.length + c.edges.length := hb
  have hR : pushR b c f g = (⟨⟨[], []⟩, ⟨[], []⟩, ⟨[], []⟩⟩, 3) := if_pos hb
  rw [if_pos hb']
  try (simp)
  repeat (refine sR ?_; simp)
  refine sC ?_
  simp
  try (simp)
  repeat (refine sR ?_; simp)
  refine sT ?_
  try simp only [AU]
  refine ⟨by simp, sF hbox htok (fun _ h => h) (Nat.le_refl _) ?_⟩
  simp [packA, hR, ints, AM.edges]
 ·have hb' : ¬ (40 < b.nodes.length + c.nodes.length ∨ 80 < b.edges.length + c.edges.length) := hb
  have hR : pushR b c f g = (pushO b c f g, 0) := if_neg hb
  rw [if_neg hb']
  have hp := spn_pair hf hg
  obtain ⟨rl1, rl2, rl3⟩ := pushO_r hp
  have mn := mt_n hf hg
  have me := mt_e hf hg
  have p1 := ppairs_c f.nodes g.nodes (iota b.nodes.length) (iotaF b.nodes.length c.nodes.length) b.nodes.length mn.l ff.n v.n (by rw [iotaF_len]; exact w.n) rfl (by rw [iotaF_len])
  have p2 := ppairs_c f.edges g.edges (iota b.edges.length) (iotaF b.edges.length c.edges.length) b.edges.length me.l ff.e v.e (by rw [iotaF_len]; exact w.e) rfl (by rw [iotaF_len])
  have hfit := unG_fit hb'
  have ln : (unG b c).nodes.length = b.nodes.length + c.nodes.length := by simp [unG]
  have le : (unG b c).edges.length = b.edges.length + c.edges.length := by simp [unG]
  have g1 := generateP_c b.nodes.length c.nodes.length f.nodes g.nodes mn (by omega)
  have g2 := generateP_c b.edges.length c.edges.length f.edges g.edges me (by omega)
  rw [← ln] at g1
  rw [← le] at g2
  have q := pquotient_c (unG b c) _ _ _ _ hfit g1 g2 (by rw [genX_len, mtI_len, ln]) (by rw [genX_len, mtI_len, le]) (by omega) (genX_part (isM_in hp.1)) (genX_part (isM_in hp.2)) (unG_ok (validG_edges v.vb) (validG_edges w.vb))
  rw [quot_glue (validG_edges v.vb) (validG_edges w.vb) hp] at q
  have hpo : glue b c (mtI f.nodes g.nodes c.nodes.length) (mtI f.edges g.edges c.edges.length) = pushO b c f g := rfl
  rw [hpo] at q
  have e3 : thenM (idM b) ⟨iota b.nodes.length ++ (pushO b c f g).r.nodes, iota b.edges.length ++ (pushO b c f g).r.edges⟩ = idM b := by simp only [thenM, idM, byK_lo]
  have e4 : thenM ⟨iotaF b.nodes.length c.nodes.length, iotaF b.edges.length c.edges.length⟩ ⟨iota b.nodes.length ++ (pushO b c f g).r.nodes, iota b.edges.length ++ (pushO b c f g).r.edges⟩ = (pushO b c f g).r := by
   simp only [thenM]
   rw [← rl1, ← rl2, byK_hi, byK_hi]
  have i1 : ∀ (n : Nat) (r : List Int), ∀ x ∈ iota n, 0 ≤ x ∧ x < (iota n ++ r).length := fun n r x hx => by
   obtain ⟨j, hj, rfl⟩ := mem_getD hx
   rw [iota_len] at hj
   rw [iota_getD hj, List.length_append, iota_len]
   omega
  have i2 : ∀ (n k : Nat) (r : List Int), r.length = k → ∀ x ∈ iotaF n k, 0 ≤ x ∧ x < (iota n ++ r).length := fun n k r hr x hx => by
   obtain ⟨j, hj, rfl⟩ := mem_getD hx
   rw [iotaF_len] at hj
   rw [iotaF_get hj, List.length_append, iota_len]
   omega
  have t3 := pthen_c (idM b) ⟨iota b.nodes.length ++ (pushO b c f g).r.nodes, iota b.edges.length ++ (pushO b c f g).r.edges⟩ ⟨by simp only [idM, iota_len]; exact fb.n, by simp only [idM, iota_len]; exact fb.e⟩ (i1 _ _) (i1 _ _)
  have t4 := pthen_c ⟨iotaF b.nodes.length c.nodes.length, iotaF b.edges.length c.edges.length⟩ ⟨iota b.nodes.length ++ (pushO b c f g).r.nodes, iota b.edges.length ++ (pushO b c f g).r.edges⟩ ⟨by simp only [iotaF_len]; exact fc.n, by simp only [iotaF_len]; exact fc.e⟩ (i2 _ _ _ rl1) (i2 _ _ _ rl2)
  rw [e3] at t3
  rw [e4] at t4
  rw [hR]
  simp only
  rw [rl3]
  have hid : idM b = ⟨iota b.nodes.length, iota b.edges.length⟩ := rfl
  rw [hid] at t3 ⊢
  generalize pushO b c f g = o at *
  generalize unG b c = u at *
  generalize (⟨iota b.nodes.length ++ o.r.nodes, iota b.edges.length ++ o.r.edges⟩ : Mo) = qq at *
  generalize prK b.nodes.length f.nodes g.nodes f.nodes.length = r1 at *
  generalize prK b.edges.length f.edges g.edges f.edges.length = r2 at *
  generalize iotaF b.nodes.length c.nodes.length = j1 at *
  generalize iotaF b.edges.length c.edges.length = j2 at *
  generalize iota b.nodes.length = k1 at *
  generalize iota b.edges.length = k2 at *
  try (simp)
  repeat (refine sR ?_; simp)
  refine sC ?_
  simp
  try (simp)
  repeat (refine sR ?_; simp)
  refine Stop.of_d (p1 _ _) ?_
  simp
  try (simp)
  repeat (refine sR ?_; simp)
  refine Stop.of_d (p2 _ _) ?_
  simp
  try (simp)
  repeat (refine sR ?_; simp)
  refine Stop.of_d (q _ _) ?_
  simp
  try (simp)
  repeat (refine sR ?_; simp)
  refine sC ?_
  simp
  try (simp)
  repeat (refine sR ?_; simp)
  refine Stop.of_d (t3 _ _) ?_
  simp
  try (simp)
  repeat (refine sR ?_; simp)
  refine Stop.of_d (t4 _ _) ?_
  simp
  try (simp)
  repeat (refine sR ?_; simp)
  refine sT ?_
  try simp only [AU]
  refine ⟨by simp, sF hbox htok (fun _ h => h) (Nat.le_refl _) ?_⟩
  simp [packA]
theorem pushP_c (a b c : Gr) (f g : Mo) (hf : Emb a b f) (hg : Emb a c g) (tok : Tks) (nt : Nat) :
  DCall Tryz.prog 81 [spanAv a b c f g] tok nt (.tup [(pushR b c f g).1.g.av, (pushR b c f g).1.l.av, (pushR b c f g).1.r.av, I (pushR b c f g).2]) tok nt := by
 intro box nb
 obtain ⟨ff, fa, fb⟩ := hf.fit
 obtain ⟨fg, _, fc⟩ := hg.fit
 have h1 := pspan_c a b c f g fa fb fc hf.v hg.v
 have h2 := pglue_c a b c f g hf hg
 refine sB Tryz.func81 Tryz.ntmps81 ?_
 intro hbox htok
 simp only at hbox htok
 apply AL.start
 try (simp)
 repeat (refine sR ?_; simp)
 refine Stop.of_d (h1 _ _) ?_
 simp
 try (simp)
 repeat (refine sR ?_; simp)
 refine sC ?_
 simp
 try (simp)
 repeat (refine sR ?_; simp)
 refine Stop.of_d (h2 _ _) ?_
 simp
 try (simp)
 repeat (refine sR ?_; simp)
 refine sT ?_
 try simp only [AU]
 refine ⟨by simp, sF hbox htok (fun _ h => h) (Nat.le_refl _) ?_⟩
 simp [packA]
end Go.AM
namespace Go.AM
open Go Go.Proofs
theorem yes_c (tok : Tks) (nt : Nat) : DCall Tryz.prog 59 [] tok nt (cdOf 1 []).av tok nt := by
 intro box nb
 refine sB Tryz.func59 Tryz.ntmps59 ?_
 intro hbox htok
 simp only at hbox htok
 apply AL.start
 try (simp)
 repeat (refine sR ?_; simp)
 refine sT ?_
 try simp only [AU]
 refine ⟨by simp, sF hbox htok (fun _ h => h) (Nat.le_refl _) ?_⟩
 simp [packA, cdOf, Cd.kind, Cd.kids, Cd.m, Cd.g, Cd.sl, Cd.vars, Cd.te, conds, ints, AM.edges, slots, tests]
theorem no_c (tok : Tks) (nt : Nat) : DCall Tryz.prog 132 [] tok nt noC.av tok nt := by
 intro box nb
 have h := yes_c
 refine sB Tryz.func132 Tryz.ntmps132 ?_
 intro hbox htok
 simp only at hbox htok
 apply AL.start
 try (simp)
 repeat (refine sR ?_; simp)
 refine Stop.of_d (h _ _) ?_
 simp
 try (simp)
 repeat (refine sR ?_; simp)
 refine sT ?_
 try simp only [AU]
 refine ⟨by simp, sF hbox htok (fun _ h => h) (Nat.le_refl _) ?_⟩
 simp [packA, noC, Cd.cells, Cd.rows, cdOf, Cd.kind, Cd.kids, Cd.m, Cd.g, Cd.sl, Cd.vars, Cd.te, conds, ints, AM.edges, slots, tests]
theorem tof_c (r : Ru) (tok : Tks) (nt : Nat) : DCall Tryz.prog 43 [r.av] tok nt (spAv r.sp) tok nt := by
 intro box nb
 refine sB Tryz.func43 Tryz.ntmps43 ?_
 intro hbox htok
 simp only at hbox htok
 apply AL.start
 try (simp)
 repeat (refine sR ?_; simp)
 refine sT ?_
 try simp only [AU]
 refine ⟨by simp, sF hbox htok (fun _ h => h) (Nat.le_refl _) ?_⟩
 simp [packA, Ru.sp]
def stAt (l images : List Int) (nb : Nat) (box : Bxs) (x : Acc) : AState := ⟨tl [(11, I x.i), (10, I images.length), (9, .d (ints images)), (0, .d (ints l)), (5, .osl 1 (rI (mapK (indexI l) images x.i)) x.own)], lb nb box [], x.tok, x.nt⟩
theorem at_c (l images : List Int) (h1 : l.length ≤ 1000000) (h2 : images.length ≤ 1000000) (tok : Tks) (nt : Nat) : DCall Tryz.prog 216 [.d (ints l), .d (ints images)] tok nt (.d (ints (images.map (indexI l)))) tok nt := by
 rw [← mapK_all]
 intro box nb
 have hh := fun v => index_c l v h1
 refine sB Tryz.func216 Tryz.ntmps216 ?_
 intro hbox htok
 simp only at hbox htok
 apply AL.start
 try (simp)
 repeat (refine sR ?_; simp)
 refine sN ?_
 refine AL.loopT (stAt l images nb box) (fun x => x.i ≤ images.length ∧ TK tok nt x.tok x.nt [x.own]) (fun x => images.length - x.i) ⟨0, .full, tok, nt⟩ ⟨Nat.zero_le _, (TK.start htok).full⟩ (Weaks.mk (Nat.le_refl _) rfl (by simp [ToL, lk, mapK_zero]) trivial) ?_
 rintro ⟨i, own, tok', nt'⟩ S ⟨hi, htk⟩ hS
 simp only [stAt] at hS hi htk
 subst hS
 have hw := sW (i := i) (by omega)
 have hlen := mapK_len (indexI l) images i
 try (simp)
 repeat (refine sR ?_; simp)
 refine sC ?_
 simp
 refine ⟨fun hlt => ?_, fun hge => ?_⟩
 ·have hsc := mapK_succ (indexI l) images hlt
  try (simp [hlt])
  repeat (refine sR ?_; simp [hlt])
  refine Stop.of_d (hh _ _ _) ?_
  simp
  try (simp)
  repeat (refine sR ?_; simp)
  refine ⟨⟨by omega, htk.live⟩, ?_⟩
  try (simp [hw])
  repeat (refine sR ?_; simp [hw])
  refine sE ?_
  exact ⟨⟨i + 1, _, _, _⟩, ⟨hlt, htk.app⟩, by simp only; omega, Weaks.mk htk.app.le rfl (by simp [ToL, lk, hsc]) trivial⟩
 ·refine sX ?_
  simp only [AU, ↓reduceIte]
  have : i = images.length := by omega
  subst this
  try (simp)
  repeat (refine sR ?_; simp)
  refine sT ?_
  try simp only [AU]
  refine ⟨by simp, sF hbox htok htk.old htk.le ?_⟩
  simp [packA, ]
def stPk (l which : List Int) (nb : Nat) (box : Bxs) (x : Acc) : AState := ⟨tl [(11, I x.i), (10, I which.length), (9, .d (ints which)), (0, .d (ints l)), (5, .osl 1 (rI (byK which l x.i)) x.own)], lb nb box [], x.tok, x.nt⟩
theorem picked_c (l which : List Int) (h2 : which.length ≤ 1000000) (hr : ∀ x ∈ which, 0 ≤ x ∧ x < l.length) (tok : Tks) (nt : Nat) : DCall Tryz.prog 217 [.d (ints l), .d (ints which)] tok nt (.d (ints (byK which l which.length))) tok nt := by
 intro box nb
 refine sB Tryz.func217 Tryz.ntmps217 ?_
 intro hbox htok
 simp only at hbox htok
 apply AL.start
 try (simp)
 repeat (refine sR ?_; simp)
 refine sN ?_
 refine AL.loopT (stPk l which nb box) (fun x => x.i ≤ which.length ∧ TK tok nt x.tok x.nt [x.own]) (fun x => which.length - x.i) ⟨0, .full, tok, nt⟩ ⟨Nat.zero_le _, (TK.start htok).full⟩ (Weaks.mk (Nat.le_refl _) rfl (by simp [ToL, lk, byK_zero]) trivial) ?_
 rintro ⟨i, own, tok', nt'⟩ S ⟨hi, htk⟩ hS
 simp only [stPk] at hS hi htk
 subst hS
 have hw := sW (i := i) (by omega)
 try (simp)
 repeat (refine sR ?_; simp)
 refine sC ?_
 simp
 refine ⟨fun hlt => ?_, fun hge => ?_⟩
 ·obtain ⟨x0, x1⟩ := hr _ (List.getElem_mem hlt)
  have x2 : which[i].toNat < l.length := by omega
  try (simp [hlt, x0, x1, x2])
  repeat (refine sR ?_; simp [hlt, x0, x1, x2])
  refine ⟨⟨by omega, htk.live⟩, ?_⟩
  try (simp [hw])
  repeat (refine sR ?_; simp [hw])
  refine sE ?_
  exact ⟨⟨i + 1, _, _, _⟩, ⟨hlt, htk.app⟩, by simp only; omega, Weaks.mk htk.app.le rfl (by simp [ToL, lk, byK_succ which l hlt, x2]) trivial⟩
 ·refine sX ?_
  simp only [AU, ↓reduceIte]
  have : i = which.length := by omega
  subst this
  try (simp)
  repeat (refine sR ?_; simp)
  refine sT ?_
  try simp only [AU]
  refine ⟨by simp, sF hbox htok htk.old htk.le ?_⟩
  simp [packA, ]
def stBk (part into keep : List Int) (nb : Nat) (box : Bxs) (x : Acc) : AState := ⟨tl [(13, I x.i), (12, I part.length), (11, .d (ints part)), (1, .d (ints into)), (2, .d (ints keep)), (7, .osl 1 (rI (byK (part.map (indexI into)) keep x.i)) x.own)], lb nb box [], x.tok, x.nt⟩
theorem backwards_c (part into keep : List Int) (h1 : part.length ≤ 1000000) (h2 : into.length ≤ 1000000) (hs : ∀ x ∈ part, x ∈ into) (hk : into.length ≤ keep.length) (tok : Tks) (nt : Nat) :
  DCall Tryz.prog 127 [.d (ints part), .d (ints into), .d (ints keep)] tok nt (.d (ints (byK (part.map (indexI into)) keep (part.map (indexI into)).length))) tok nt := by
 intro box nb
 have hh := fun v => index_c into v h2
 refine sB Tryz.func127 Tryz.ntmps127 ?_
 intro hbox htok
 simp only at hbox htok
 apply AL.start
 try (simp)
 repeat (refine sR ?_; simp)
 refine sN ?_
 refine AL.loopT (stBk part into keep nb box) (fun x => x.i ≤ part.length ∧ TK tok nt x.tok x.nt [x.own]) (fun x => part.length - x.i) ⟨0, .full, tok, nt⟩ ⟨Nat.zero_le _, (TK.start htok).full⟩ (Weaks.mk (Nat.le_refl _) rfl (by simp [ToL, lk, byK_zero]) trivial) ?_
 rintro ⟨i, own, tok', nt'⟩ S ⟨hi, htk⟩ hS
 simp only [stBk] at hS hi htk
 subst hS
 have hw := sW (i := i) (by omega)
 try (simp)
 repeat (refine sR ?_; simp)
 refine sC ?_
 simp
 refine ⟨fun hlt => ?_, fun hge => ?_⟩
 ·obtain ⟨x0, x1⟩ := mem_indexI hs i hlt
  have x2 : (indexI into part[i]).toNat < keep.length := by omega
  have x3 : indexI into part[i] < keep.length := by omega
  have hsc := byK_succ (part.map (indexI into)) keep (i := i) (by simpa using hlt)
  rw [List.getElem_map] at hsc
  try (simp [hlt])
  repeat (refine sR ?_; simp [hlt])
  refine Stop.of_d (hh _ _ _) ?_
  simp
  try (simp [x0, x2, x3])
  repeat (refine sR ?_; simp [x0, x2, x3])
  refine ⟨⟨by omega, htk.live⟩, ?_⟩
  try (simp [hw])
  repeat (refine sR ?_; simp [hw])
  refine sE ?_
  exact ⟨⟨i + 1, _, _, _⟩, ⟨hlt, htk.app⟩, by simp only; omega, Weaks.mk htk.app.le rfl (by simp [ToL, lk, hsc, x2]) trivial⟩
 ·refine sX ?_
  simp only [AU, ↓reduceIte]
  have : i = part.length := by omega
  subst this
  try (simp)
  repeat (refine sR ?_; simp)
  refine sT ?_
  try simp only [AU]
  refine ⟨by simp, sF hbox htok htk.old htk.le ?_⟩
  simp [packA, ]
def stSt (r : Ru) (nb : Nat) (box : Bxs) (tok : Tks) (nt : Nat) (i : Nat) : AState :=
 ⟨tl [(72, I i), (71, I 2), (70, .osl 5 [[ints r.lg.nodes, AM.edges r.lg.edges, slots r.lsl, .raw (.int .i64 r.lv), tests r.lte], [ints r.rg.nodes, AM.edges r.rg.edges, slots r.rsl, .raw (.int .i64 r.rv), tests r.rte]] .full), (1, .ptr (nb + 1) 0 0)], lb nb box [(1, [r.row])], tok, nt⟩
theorem structural_c (r : Ru) (hr : r.Fit) (tok : Tks) (nt : Nat) : DCall Tryz.prog 41 [r.av] tok nt (I (strR r)) tok nt := by
 intro box nb
 have h1 := graphValid_c r.lg hr.lg
 have h2 := graphValid_c r.rg hr.rg
 have h3 := validP_c r.lg r.k hr.lg hr.k
 have h4 := fun h => extractP_c r.lg r.k hr.lg hr.k h
 have h5 := fun h => valid51_c (exG r.lg r.k) r.rg r.i h hr.rg
 have h6 := fun h => injective56_c (exG r.lg r.k) r.rg r.i h hr.rg hr.i
 refine sB Tryz.func41 Tryz.ntmps41 ?_
 intro hbox htok
 simp only at hbox htok
 apply AL.start
 try (simp)
 repeat (refine sR ?_; simp)
 refine Stop.of_d (h1 _ _) ?_
 simp
 try (simp)
 repeat (refine sR ?_; simp)
 by_cases e1 : validG r.lg = 0
 ·simp only [e1]
  refine sC ?_
  simp
  try (simp)
  repeat (refine sR ?_; simp)
  refine Stop.of_d (h2 _ _) ?_
  simp
  try (simp)
  repeat (refine sR ?_; simp)
  by_cases e2 : validG r.rg = 0
  ·simp only [e2]
   refine sC ?_
   simp
   try (simp)
   repeat (refine sR ?_; simp)
   refine Stop.of_d (h3 _ _) ?_
   simp
   try (simp)
   repeat (refine sR ?_; simp)
   by_cases e3 : validP r.lg r.k = 0
   ·simp only [e3]
    refine sC ?_
    simp
    try (simp)
    repeat (refine sR ?_; simp)
    have hp := VP.of e3
    have hx := hp.emb.fit.2.1
    refine Stop.of_d (h4 hp _ _) ?_
    simp
    try (simp)
    repeat (refine sR ?_; simp)
    refine sC ?_
    simp
    try (simp)
    repeat (refine sR ?_; simp)
    refine Stop.of_d (h5 hx _ _) ?_
    simp
    try (simp)
    repeat (refine sR ?_; simp)
    by_cases e4 : validM (exG r.lg r.k) r.rg r.i = 0
    ·simp only [e4]
     refine sC ?_
     simp
     try (simp)
     repeat (refine sR ?_; simp)
     refine Stop.of_d (h6 hx _ _) ?_
     simp
     try (simp)
     repeat (refine sR ?_; simp)
     cases e5 : injM (exG r.lg r.k) r.rg r.i
     ·refine sC ?_
      simp
      try (simp)
      repeat (refine sR ?_; simp)
      refine sT ?_
      try simp only [AU]
      refine ⟨by simp, sF hbox htok (fun _ h => h) (Nat.le_refl _) ?_⟩
      simp [packA, strR, e1, e2, e3, e4, e5]
     ·refine sC ?_
      simp
      try (simp)
      repeat (refine sR ?_; simp)
      have hls := hr.ls
      have hlt := hr.lt
      have hrs := hr.rs
      have hrt := hr.rt
      rw [bigN_eq] at hls hlt hrs hrt
      have w1 : IntKind.i64.wrap ((r.lsl.length : Int) + r.lte.length) = ((r.lsl.length + r.lte.length : Nat) : Int) := by rw [wrap_in (by omega) (by omega)]; omega
      have w2 : IntKind.i64.wrap ((r.rsl.length : Int) + r.rte.length) = ((r.rsl.length + r.rte.length : Nat) : Int) := by rw [wrap_in (by omega) (by omega)]; omega
      refine ⟨rfl, ?_⟩
      try (simp)
      repeat (refine sR ?_; simp)
      refine sN ?_
      refine AL.loopT (stSt r nb box tok nt) (fun i => i ≤ 2 ∧ (1 ≤ i → r.plainL) ∧ (2 ≤ i → r.plainR)) (fun i => 2 - i) 0 ⟨by omega, by omega, by omega⟩ (Weaks.mk (Nat.le_refl _) rfl (by simp [ToL, lk]) (by simp [BoxL, lk])) ?_
      rintro i S ⟨hi, hpl, hpr⟩ hS
      simp only [stSt] at hS
      subst hS
      obtain rfl | rfl | rfl : i = 0 ∨ i = 1 ∨ i = 2 := by omega
      ·have hw : IntKind.i64.wrap 1 = 1 := rfl
       try (simp)
       repeat (refine sR ?_; simp)
       refine sC ?_
       simp
       by_cases s1 : (0 : Int) < (r.lsl.length : Int) + r.lte.length
       ·have hne : ¬ r.plainL := fun h => by have := h.1; omega
        try (simp [w1, s1])
        repeat (refine sR ?_; simp [w1, s1])
        refine sC ?_
        simp
        try (simp)
        repeat (refine sR ?_; simp)
        refine sT ?_
        try simp only [AU]
        refine ⟨by simp, sF hbox htok (fun _ h => h) (Nat.le_refl _) ?_⟩
        simp [packA, strR, e1, e2, e3, e4, e5, hne]
       ·by_cases s2 : r.lv = 0
        ·have hyes : r.plainL := ⟨by omega, s2⟩
         have b2 : (r.lv != 0) = false := by simp [s2]
         try (simp [w1, s1, b2])
         repeat (refine sR ?_; simp [w1, s1, b2])
         refine sC ?_
         simp
         try (simp [hw])
         repeat (refine sR ?_; simp [hw])
         refine sE ?_
         exact ⟨1, ⟨by omega, fun _ => hyes, by omega⟩, by omega, Weaks.mk (Nat.le_refl _) rfl (by simp [ToL, lk]) (by simp [BoxL, lk])⟩
        ·have hne : ¬ r.plainL := fun h => s2 h.2
         have b2 : (r.lv != 0) = true := by simp [s2]
         try (simp [w1, s1, b2])
         repeat (refine sR ?_; simp [w1, s1, b2])
         refine sC ?_
         simp
         try (simp)
         repeat (refine sR ?_; simp)
         refine sT ?_
         try simp only [AU]
         refine ⟨by simp, sF hbox htok (fun _ h => h) (Nat.le_refl _) ?_⟩
         simp [packA, strR, e1, e2, e3, e4, e5, hne]
      ·have hw : IntKind.i64.wrap 2 = 2 := rfl
       have hl := hpl (by omega)
       try (simp)
       repeat (refine sR ?_; simp)
       refine sC ?_
       simp
       by_cases s1 : (0 : Int) < (r.rsl.length : Int) + r.rte.length
       ·have hne : ¬ r.plainR := fun h => by have := h.1; omega
        try (simp [w2, s1])
        repeat (refine sR ?_; simp [w2, s1])
        refine sC ?_
        simp
        try (simp)
        repeat (refine sR ?_; simp)
        refine sT ?_
        try simp only [AU]
        refine ⟨by simp, sF hbox htok (fun _ h => h) (Nat.le_refl _) ?_⟩
        simp [packA, strR, e1, e2, e3, e4, e5, hne]
       ·by_cases s2 : r.rv = 0
        ·have hyes : r.plainR := ⟨by omega, s2⟩
         have b2 : (r.rv != 0) = false := by simp [s2]
         try (simp [w2, s1, b2])
         repeat (refine sR ?_; simp [w2, s1, b2])
         refine sC ?_
         simp
         try (simp [hw])
         repeat (refine sR ?_; simp [hw])
         refine sE ?_
         exact ⟨2, ⟨by omega, fun _ => hl, fun _ => hyes⟩, by omega, Weaks.mk (Nat.le_refl _) rfl (by simp [ToL, lk]) (by simp [BoxL, lk])⟩
        ·have hne : ¬ r.plainR := fun h => s2 h.2
         have b2 : (r.rv != 0) = true := by simp [s2]
         try (simp [w2, s1, b2])
         repeat (refine sR ?_; simp [w2, s1, b2])
         refine sC ?_
         simp
         try (simp)
         repeat (refine sR ?_; simp)
         refine sT ?_
         try simp only [AU]
         refine ⟨by simp, sF hbox htok (fun _ h => h) (Nat.le_refl _) ?_⟩
         simp [packA, strR, e1, e2, e3, e4, e5, hne]
      ·have hl := hpl (by omega)
       have hr2 := hpr (by omega)
       try (simp)
       repeat (refine sR ?_; simp)
       refine sC ?_
       simp
       refine sX ?_
       simp only [AU, ↓reduceIte]
       try (simp)
       repeat (refine sR ?_; simp)
       cases hin : r.inj
       ·refine sC ?_
        simp
        try (simp)
        repeat (refine sR ?_; simp)
        refine sT ?_
        try simp only [AU]
        refine ⟨by simp, sF hbox htok (fun _ h => h) (Nat.le_refl _) ?_⟩
        simp [packA, strR, e1, e2, e3, e4, e5, hl, hr2, hin]
       ·refine sC ?_
        simp
        try (simp)
        repeat (refine sR ?_; simp)
        refine sT ?_
        try simp only [AU]
        refine ⟨by simp, sF hbox htok (fun _ h => h) (Nat.le_refl _) ?_⟩
        simp [packA, strR, e1, e2, e3, e4, e5, hl, hr2, hin]
    ·have b4 : (validM (exG r.lg r.k) r.rg r.i != 0) = true := by simp [e4]
     simp only [b4]
     refine sC ?_
     simp
     try (simp)
     repeat (refine sR ?_; simp)
     refine sT ?_
     try simp only [AU]
     refine ⟨by simp, sF hbox htok (fun _ h => h) (Nat.le_refl _) ?_⟩
     simp [packA, strR, e1, e2, e3, e4]
   ·have b3 : (validP r.lg r.k != 0) = true := by simp [e3]
    simp only [b3]
    refine sC ?_
    simp
    try (simp)
    repeat (refine sR ?_; simp)
    refine sT ?_
    try simp only [AU]
    refine ⟨by simp, sF hbox htok (fun _ h => h) (Nat.le_refl _) ?_⟩
    simp [packA, strR, e1, e2, e3]
  ·have b2 : (validG r.rg != 0) = true := by simp [e2]
   simp only [b2]
   refine sC ?_
   simp
   try (simp)
   repeat (refine sR ?_; simp)
   refine sT ?_
   try simp only [AU]
   refine ⟨by simp, sF hbox htok (fun _ h => h) (Nat.le_refl _) ?_⟩
   simp [packA, strR, e1, e2]
 ·have b1 : (validG r.lg != 0) = true := by simp [e1]
  simp only [b1]
  refine sC ?_
  simp
  try (simp)
  repeat (refine sR ?_; simp)
  refine sT ?_
  try simp only [AU]
  refine ⟨by simp, sF hbox htok (fun _ h => h) (Nat.le_refl _) ?_⟩
  simp [packA, strR, e1]
end Go.AM
namespace Go.AM
open Go Go.Proofs
theorem sortI_asc {l : List Int} {n : Nat} (hn : l.Nodup) (hr : ∀ x ∈ l, 0 ≤ x ∧ x < n) : sortI l = ascL l n := by
 have hp : (sortI l).Perm l := List.mergeSort_perm _ _
 have hs : (sortI l).Pairwise fun a b => (decide (a ≤ b)) = true := List.pairwise_mergeSort (fun a b c h1 h2 => by simp only [decide_eq_true_eq] at *; omega) (fun a b => by simp only [Bool.or_eq_true, decide_eq_true_eq]; omega) l
 have hd : (sortI l).Nodup := hp.nodup_iff.2 hn
 refine pw_ext (List.Pairwise.imp₂ (fun a b h1 h2 => ?_) hs hd) (ascL_pw _ _) fun x => ?_
 ·simp only [decide_eq_true_eq] at h1
  have : a ≠ b := h2
  omega
 ·rw [hp.mem_iff, ascL_mem]
  exact ⟨fun h => ⟨h, hr x h⟩, fun h => h.1⟩
theorem imgP_sort {a y : Gr} {q : Mo} (hq : Emb a y q) : (imgP y q) = ⟨sortI q.nodes, sortI q.edges⟩ := by
 have v := hq.vm
 rw [imgP, sortI_asc hq.n v.n, sortI_asc hq.e v.e]
theorem SpOk.fit {s : Sp} (h : SpOk s) : s.l.Fit ∧ s.r.Fit ∧ s.k.Fit ∧ s.i.Fit := ⟨h.k.emb.fit.2.2, h.i.fit.2.2, h.k.emb.fit.1, h.i.fit.1⟩
set_option maxRecDepth 100000 in
theorem exists_c (c x : Cd) (hkx : c.kids = [x]) (k5 : c.kind = 5) (s : Sp) (hs : SpOk s) (hm : Emb s.r c.g c.m)
  (ih : s.dng c.m c.g = false → ¬ s.big c.m c.g → ∀ (tok : Tks) (nt : Nat), DCall Tryz.prog 93 [spAv (s.inn c.m c.g), x.av] tok nt (.tup [(x.lft (s.inn c.m c.g)).1.av, I (x.lft (s.inn c.m c.g)).2]) tok nt) (tok : Tks) (nt : Nat) :
  DCall Tryz.prog 157 [spAv s, c.av] tok nt (.tup [(c.lft s).1.av, I (c.lft s).2]) tok nt := by
 intro box nb
 obtain ⟨fl, fr, fk, fi⟩ := hs.fit
 obtain ⟨fm, _, fg⟩ := hm.fit
 have s1 := sorted34_c s.i.nodes fi.n
 have s2 := sorted34_c s.i.edges fi.e
 have hi := imgP_vp hs.i
 have hC := ofP_c s.r c.g (imgP s.r s.i) c.m fr fg fm hi.emb.fit.1 hm hi
 have hL : c.lft s = lftStep 5 c.m c.g s (fun s => kidsE (fun x => Cd.lft x s) [x]) (fun s => kidsE (fun x => Cd.lft x s) [x]) := by rw [c.lft_eq, k5, hkx]
 have eI := imgP_sort hs.i
 rw [eI] at hC
 refine sB Tryz.func157 Tryz.ntmps157 ?_
 intro hbox htok
 simp only at hbox htok
 apply AL.start
 try (simp)
 repeat (refine sR ?_; simp)
 refine Stop.of_d (s1 _ _) ?_
 simp
 try (simp)
 repeat (refine sR ?_; simp)
 refine Stop.of_d (s2 _ _) ?_
 simp
 try (simp)
 repeat (refine sR ?_; simp)
 refine Stop.of_d (hC _ _) ?_
 simp
 rw [← eI]
 by_cases hd : s.dng c.m c.g = true
 ·have e : cmpR s.r c.g (imgP s.r s.i) c.m = (⟨[], []⟩, 14) := if_pos hd
  rw [e, show c.lft s = (noC, 0) by rw [hL, lftStep, if_neg (by simp), if_pos hd]]
  have hn := no_c
  try (simp)
  repeat (refine sR ?_; simp)
  refine sC ?_
  simp
  try (simp)
  repeat (refine sR ?_; simp)
  refine Stop.of_d (hn _ _) ?_
  simp
  try (simp)
  repeat (refine sR ?_; simp)
  refine sT ?_
  try simp only [AU]
  refine ⟨by simp, sF hbox htok (fun _ h => h) (Nat.le_refl _) ?_⟩
  simp [packA]
 ·have hd' : s.dng c.m c.g = false := by simpa using hd
  have e : cmpR s.r c.g (imgP s.r s.i) c.m = (s.z c.m c.g, 0) := if_neg hd
  rw [e]
  have ih := ih hd'
  have vz := Sp.z_vp hs hm hd'
  have hgo := Sp.go_emb hs hm hd'
  have hsub := Sp.go_sub hs hm
  have x1 := extractP_c c.g (s.z c.m c.g) fg vz.emb.fit.1 vz
  have x2 := extractP_c s.l s.k fl fk hs.k
  have vi := hs.i.vm
  have vm := hm.vm
  have p1 := picked_c c.m.nodes s.i.nodes fi.n (by rw [vm.ln]; exact vi.n)
  have p2 := picked_c c.m.edges s.i.edges fi.e (by rw [vm.le]; exact vi.e)
  have a1 := at_c (s.z c.m c.g).nodes (byK s.i.nodes c.m.nodes s.i.nodes.length) vz.emb.fit.1.n (by rw [byK_all]; exact fi.n)
  have a2 := at_c (s.z c.m c.g).edges (byK s.i.edges c.m.edges s.i.edges.length) vz.emb.fit.1.e (by rw [byK_all]; exact fi.e)
  have po := pushP_c (exG s.l s.k) s.l (s.rest c.m c.g) s.k (s.go c.m c.g) hs.k.emb hgo
  have ego : s.go c.m c.g = ⟨(byK s.i.nodes c.m.nodes s.i.nodes.length).map (indexI (s.z c.m c.g).nodes), (byK s.i.edges c.m.edges s.i.edges.length).map (indexI (s.z c.m c.g).edges)⟩ := rfl
  obtain ⟨P, hP⟩ : ∃ P, pushR s.l (s.rest c.m c.g) s.k (s.go c.m c.g) = P := ⟨_, rfl⟩
  rw [hP, ego] at po
  have erest : exG c.g (s.z c.m c.g) = s.rest c.m c.g := rfl
  rw [erest] at x1
  try (simp)
  repeat (refine sR ?_; simp)
  refine sC ?_
  simp
  try (simp)
  repeat (refine sR ?_; simp)
  refine Stop.of_d (x1 _ _) ?_
  simp
  try (simp)
  repeat (refine sR ?_; simp)
  refine sC ?_
  simp
  try (simp)
  repeat (refine sR ?_; simp)
  refine Stop.of_d (x2 _ _) ?_
  simp
  try (simp)
  repeat (refine sR ?_; simp)
  refine sC ?_
  simp
  try (simp)
  repeat (refine sR ?_; simp)
  refine Stop.of_d (p1 _ _) ?_
  simp
  try (simp)
  repeat (refine sR ?_; simp)
  refine Stop.of_d (a1 _ _) ?_
  simp
  try (simp)
  repeat (refine sR ?_; simp)
  refine Stop.of_d (p2 _ _) ?_
  simp
  try (simp)
  repeat (refine sR ?_; simp)
  refine Stop.of_d (a2 _ _) ?_
  simp
  try (simp)
  repeat (refine sR ?_; simp)
  refine Stop.of_d (po _ _) ?_
  simp
  by_cases hb : s.big c.m c.g
  ·have e : P = (⟨⟨[], []⟩, ⟨[], []⟩, ⟨[], []⟩⟩, 3) := by rw [← hP]; exact if_pos hb
   rw [e, show c.lft s = (cdOf 0 [], 3) by rw [hL, lftStep, if_neg (by simp), if_neg (by simp [hd']), if_pos hb]]
   try (simp)
   repeat (refine sR ?_; simp)
   refine sC ?_
   simp
   try (simp)
   repeat (refine sR ?_; simp)
   refine sT ?_
   try simp only [AU]
   refine ⟨by simp, sF hbox htok (fun _ h => h) (Nat.le_refl _) ?_⟩
   simp [packA, cdOf, Cd.kind, Cd.kids, Cd.m, Cd.g, Cd.sl, Cd.vars, Cd.te, conds, ints, AM.edges, slots, tests]
  ·have e : P = (s.po c.m c.g, 0) := by rw [← hP]; exact if_neg hb
   rw [e]
   have ih := ih hb
   obtain ⟨p1, p2, p3⟩ := Sp.po_emb hs hm hd' hb
   have v3 := p3.vm
   have f3 := p3.fit
   have s1 := sorted34_c (s.po c.m c.g).r.nodes f3.1.n
   have s2 := sorted34_c (s.po c.m c.g).r.edges f3.1.e
   have eJ := imgP_sort p3
   have hJ := imgP_vp p3
   have fJ := hJ.emb.fit.1
   have sJ := imgP_sub (y := (s.po c.m c.g).g) (q := (s.po c.m c.g).r)
   rw [eJ] at fJ sJ
   have b1 := backwards_c (sortI (s.po c.m c.g).r.nodes) (s.po c.m c.g).r.nodes (s.z c.m c.g).nodes fJ.n f3.1.n sJ.1 (by rw [v3.ln]; simp [Sp.rest, exG])
   have b2 := backwards_c (sortI (s.po c.m c.g).r.edges) (s.po c.m c.g).r.edges (s.z c.m c.g).edges fJ.e f3.1.e sJ.2 (by rw [v3.le]; simp [Sp.rest, exG])
   have eN : s.inn c.m c.g = ⟨(s.po c.m c.g).g, c.g, imgP (s.po c.m c.g).g (s.po c.m c.g).r, thenM (liftM (s.po c.m c.g).r (imgP (s.po c.m c.g).g (s.po c.m c.g).r)) (s.z c.m c.g)⟩ := rfl
   rw [eJ] at eN
   obtain ⟨R, hR⟩ : ∃ R, x.lft (s.inn c.m c.g) = R := ⟨_, rfl⟩
   rw [hR] at ih
   rw [eN] at ih
   simp only [thenM, liftM, List.length_map] at ih
   try (simp)
   repeat (refine sR ?_; simp)
   refine sC ?_
   simp
   try (simp)
   repeat (refine sR ?_; simp)
   refine Stop.of_d (s1 _ _) ?_
   simp
   try (simp)
   repeat (refine sR ?_; simp)
   refine Stop.of_d (s2 _ _) ?_
   simp
   try (simp)
   repeat (refine sR ?_; simp)
   refine Stop.of_d (b1 _ _) ?_
   simp
   try (simp)
   repeat (refine sR ?_; simp)
   refine Stop.of_d (b2 _ _) ?_
   simp
   try (simp [hkx, Cd.cells_eq])
   repeat (refine sR ?_; simp [hkx, Cd.cells_eq])
   refine Stop.of_d (ih _ _) ?_
   simp
   try (simp)
   repeat (refine sR ?_; simp)
   by_cases h0 : R.2 = 0
   ·rw [show c.lft s = (.mk 5 [R.1] (s.po c.m c.g).l (s.po c.m c.g).g [] 0 [], 0) by rw [hL, lftStep, if_neg (by simp), if_neg (by simp [hd']), if_neg hb]; have hk : kidsE (fun x => Cd.lft x (s.inn c.m c.g)) [x] = ([R.1], 0) := by { unfold kidsE; rw [hR, if_neg (by simp [h0])]; exact if_neg (by simp [kidsE]) }; rw [hk]; exact if_neg (by simp)]
    have hav : (Cd.mk 5 [R.1] (s.po c.m c.g).l (s.po c.m c.g).g [] 0 []).av = .agg [I 5, .d (.sl 9 [R.1.cells]), .d (ints (s.po c.m c.g).l.nodes), .d (ints (s.po c.m c.g).l.edges), .d (ints (s.po c.m c.g).g.nodes), .d (AM.edges (s.po c.m c.g).g.edges), .d (.sl 4 []), I 0, .d (.sl 5 [])] := rfl
    rw [R.1.cells_eq] at hav
    rw [hav]
    simp only [h0]
    refine sC ?_
    simp
    try (simp)
    repeat (refine sR ?_; simp)
    refine sT ?_
    try simp only [AU]
    refine ⟨by simp, sF hbox htok (fun _ h => h) (Nat.le_refl _) ?_⟩
    simp [packA]
   ·rw [show c.lft s = (cdOf 0 [], R.2) by rw [hL, lftStep, if_neg (by simp), if_neg (by simp [hd']), if_neg hb]; have hk : kidsE (fun x => Cd.lft x (s.inn c.m c.g)) [x] = ([], R.2) := by { unfold kidsE; rw [hR]; exact if_pos h0 }; rw [hk]; exact if_pos h0]
    have b0 : (R.2 != 0) = true := by simp [h0]
    simp only [b0]
    refine sC ?_
    simp
    try (simp)
    repeat (refine sR ?_; simp)
    refine sT ?_
    try simp only [AU]
    refine ⟨by simp, sF hbox htok (fun _ h => h) (Nat.le_refl _) ?_⟩
    simp [packA, cdOf, Cd.kind, Cd.kids, Cd.m, Cd.g, Cd.sl, Cd.vars, Cd.te, conds, ints, AM.edges, slots, tests]
end Go.AM
namespace Go.AM
open Go Go.Proofs
def stLk (c : Cd) (s : Sp) (nb : Nat) (box : Bxs) (x : Acc) : AState :=
 ⟨tl [(25, I x.i), (24, I c.kids.length), (23, .d (conds c.kids)), (6, .ptr (nb + 6) 0 0), (4, .ptr (nb + 4) 0 0), (2, .ptr (nb + 2) 0 0)],
  lb nb box [(6, [[I c.kind, .osl 9 (((c.kids.take x.i).map fun k => (k.lft s).1).map Cd.cells) x.own, nilS, nilS, nilS, nilS, nilS, z0i, nilS]]), (4, [[z0i, nilS, nilS, nilS, nilS, nilS, nilS, z0i, nilS]]),
   (2, [[.d (ints s.l.nodes), .d (AM.edges s.l.edges), .d (ints s.r.nodes), .d (AM.edges s.r.edges), .d (ints s.k.nodes), .d (ints s.k.edges), .d (ints s.i.nodes), .d (ints s.i.edges)]])], x.tok, x.nt⟩
set_option maxRecDepth 100000 in
theorem left_c : ∀ (n : Nat) (c : Cd), SizeOf.sizeOf c < n → c.Fit → ∀ s, SpOk s → c.ovr s.r = 0 → ∀ (tok : Tks) (nt : Nat), DCall Tryz.prog 93 [spAv s, c.av] tok nt (.tup [(c.lft s).1.av, I (c.lft s).2]) tok nt
 | 0, c, hn, _, _, _, _, _, _ => absurd hn (Nat.not_lt_zero _)
 | n + 1, c, hn, hf, s, hs, hv, tok, nt => by
  have ih := fun x (hx : x ∈ c.kids) => left_c n x (by have := Cd.kid_lt hx; omega) (hf.kid x hx)
  intro box nb
  have hkl := hf.kids
  obtain ⟨h0, h1, h2⟩ := Cd.ovr_zero hv
  by_cases k5 : c.kind = 5
  ·obtain ⟨hm, x, hkx⟩ := ovr_ex hv k5
   have hi : c.inn s.r = c.g := if_pos k5
   rw [hi] at h2
   have he := exists_c c x hkx k5 s hs hm (fun hd hb => ih x (by rw [hkx]; simp) _ (Sp.inn_ok hs hm hd hb) (h2 x (by rw [hkx]; simp)))
   have b5 : (c.kind == 5) = true := by simp [k5]
   refine sB Tryz.func93 Tryz.ntmps93 ?_
   intro hbox htok
   simp only at hbox htok
   apply AL.start
   try (simp [b5])
   repeat (refine sR ?_; simp [b5])
   refine sC ?_
   simp
   try (simp)
   repeat (refine sR ?_; simp)
   refine Stop.of_d (he _ _) ?_
   simp
   try (simp)
   repeat (refine sR ?_; simp)
   refine sT ?_
   try simp only [AU]
   refine ⟨by simp, sF hbox htok (fun _ h => h) (Nat.le_refl _) ?_⟩
   simp [packA]
  ·have hi : c.inn s.r = s.r := if_neg k5
   rw [hi] at h2
   have b5 : (c.kind == 5) = false := by simp [k5]
   have hL : c.lft s = (if (kidsE (fun x => Cd.lft x s) c.kids).2 ≠ 0 then (cdOf 0 [], (kidsE (fun x => Cd.lft x s) c.kids).2) else (cdOf c.kind (kidsE (fun x => Cd.lft x s) c.kids).1, 0)) := by rw [c.lft_eq]; exact if_pos k5
   refine sB Tryz.func93 Tryz.ntmps93 ?_
   intro hbox htok
   simp only at hbox htok
   apply AL.start
   try (simp [b5])
   repeat (refine sR ?_; simp [b5])
   refine sC ?_
   simp
   try (simp)
   repeat (refine sR ?_; simp)
   refine sN ?_
   have hkl2 := hkl
   rw [kidN_eq] at hkl2
   refine AL.loopT (stLk c s nb box) (fun x => x.i ≤ c.kids.length ∧ (∀ y ∈ c.kids.take x.i, (y.lft s).2 = 0) ∧ TK tok nt x.tok x.nt [x.own]) (fun x => c.kids.length - x.i) ⟨0, .full, tok, nt⟩ ⟨Nat.zero_le _, by simp, (TK.start htok).full⟩ (Weaks.mk (Nat.le_refl _) rfl (by simp [ToL, lk]) (by simp [BoxL, lk])) ?_
   rintro ⟨i, own, tok', nt'⟩ S ⟨hi, hok, htk⟩ hS
   simp only [stLk] at hS hi htk hok
   subst hS
   have hw := sW (i := i) (by omega)
   obtain ⟨K, hK⟩ : ∃ K, (c.kids.take i).map (fun k => (k.lft s).1) = K := ⟨_, rfl⟩
   have hKl : K.length ≤ i := by rw [← hK]; simp; omega
   rw [hK]
   try (simp)
   repeat (refine sR ?_; simp)
   refine sC ?_
   simp
   refine ⟨fun hlt => ?_, fun hge => ?_⟩
   ·have hmem : c.kids[i] ∈ c.kids := List.getElem_mem hlt
    have ihx := ih _ hmem s hs (h2 _ hmem)
    have hstep : (c.kids.take (i + 1)).map (fun k => (k.lft s).1) = K ++ [(c.kids[i].lft s).1] := by rw [← hK, ← List.take_append_getElem hlt, List.map_append]; rfl
    have hall : (c.kids[i].lft s).2 = 0 → ∀ y ∈ c.kids.take (i + 1), (y.lft s).2 = 0 := fun h y hy => by
     rw [← List.take_append_getElem hlt] at hy
     rcases List.mem_append.1 hy with hy | hy
     ·exact hok y hy
     ·rw [List.mem_singleton.1 hy]; exact h
    have hbad := fun h => kidsE_at (f := fun x => Cd.lft x s) hlt hok h
    try (simp [hlt, Cd.cells_eq])
    repeat (refine sR ?_; simp [hlt, Cd.cells_eq])
    refine Stop.of_d (ihx _ _) ?_
    simp
    generalize c.kids[i].lft s = R at *
    try (simp)
    repeat (refine sR ?_; simp)
    by_cases e0 : R.2 = 0
    ·simp only [e0]
     refine sC ?_
     simp
     try (simp)
     repeat (refine sR ?_; simp)
     refine ⟨⟨by omega, htk.live⟩, ?_⟩
     try (simp [hw])
     repeat (refine sR ?_; simp [hw])
     refine sE ?_
     exact ⟨⟨i + 1, _, _, _⟩, ⟨hlt, hall e0, htk.app⟩, by simp only; omega, Weaks.mk htk.app.le rfl (by simp [ToL, lk]) (by simp [BoxL, lk, hstep, Cd.cells_eq])⟩
    ·have b0 : (R.2 != 0) = true := by simp [e0]
     rw [hL, hbad e0, if_pos e0]
     simp only [b0]
     refine sC ?_
     simp
     try (simp)
     repeat (refine sR ?_; simp)
     refine sT ?_
     try simp only [AU]
     refine ⟨by simp, sF hbox htok htk.old htk.le ?_⟩
     simp [packA, cdOf, Cd.kind, Cd.kids, Cd.m, Cd.g, Cd.sl, Cd.vars, Cd.te, conds, ints, AM.edges, slots, tests]
   ·refine sX ?_
    simp only [AU, ↓reduceIte]
    have : i = c.kids.length := by omega
    subst this
    rw [List.take_length] at hok
    rw [List.take_length] at hK
    rw [hL, kidsE_of hok, if_neg (by simp), hK]
    have hav : (cdOf c.kind K).av = .agg [I c.kind, .d (conds K), .d (ints []), .d (ints []), .d (ints []), .d (AM.edges []), .d (slots []), I 0, .d (tests [])] := rfl
    rw [hav]
    try (simp)
    repeat (refine sR ?_; simp)
    refine sT ?_
    try simp only [AU]
    refine ⟨by simp, sF hbox htok htk.old htk.le ?_⟩
    simp [packA, ints, AM.edges, slots, tests]
end Go.AM
namespace Go.AM
open Go Go.Proofs
end Go.AM
namespace Go.AM
open Go Go.Proofs
def movR (s : Sp) (c : Cd) : Cd × Int := if validC s.r c ≠ 0 then (cdOf 0 [], validC s.r c) else if (c.lft s).2 ≠ 0 then (cdOf 0 [], (c.lft s).2) else if validC s.l (c.lft s).1 ≠ 0 then (cdOf 0 [], validC s.l (c.lft s).1) else ((c.lft s).1, 0)
def leftR (r : Ru) (c : Cd) : Cd × Int := if strR r ≠ 0 then (cdOf 0 [], strR r) else movR r.sp c
def rightR (r : Ru) (c : Cd) : Cd × Int := if strR r ≠ 0 then (cdOf 0 [], strR r) else movR r.sp.inv c
theorem validC_zero {a : Gr} {c : Cd} (h : validC a c = 0) : validG a = 0 ∧ c.ovr a = 0 := by
 unfold validC at h
 split at h
 ·contradiction
 ·split at h
  ·contradiction
  ·rename_i h1 h2
   exact ⟨Decidable.not_not.1 h1, Decidable.not_not.1 h2⟩
theorem zav : (cdOf 0 []).av = .agg [I 0, .d (.sl 9 []), .d (.sl 1 []), .d (.sl 1 []), .d (.sl 1 []), .d (.sl 3 []), .d (.sl 4 []), I 0, .d (.sl 5 [])] := rfl
set_option maxRecDepth 100000 in
theorem moved_c (s : Sp) (c : Cd) (hs : SpOk s) (hf : c.Fit) (tok : Tks) (nt : Nat) : DCall Tryz.prog 42 [spAv s, c.av] tok nt (.tup [(movR s c).1.av, I (movR s c).2]) tok nt := by
 intro box nb
 obtain ⟨fl, fr, fk, fi⟩ := hs.fit
 have h1 := validC_c s.r c fr hf
 have h2 := fun hv => left_c _ c (Nat.lt_succ_self _) hf s hs hv
 refine sB Tryz.func42 Tryz.ntmps42 ?_
 intro hbox htok
 simp only at hbox htok
 apply AL.start
 try (simp)
 repeat (refine sR ?_; simp)
 refine Stop.of_d (h1 _ _) ?_
 simp
 try (simp)
 repeat (refine sR ?_; simp)
 by_cases e1 : validC s.r c = 0
 ·have hv := (validC_zero e1).2
  simp only [e1]
  refine sC ?_
  simp
  try (simp)
  repeat (refine sR ?_; simp)
  refine Stop.of_d (h2 hv _ _) ?_
  simp
  have hok := lft_ok _ c (Nat.lt_succ_self _) hf s hs hv
  obtain ⟨R, hR⟩ : ∃ R, c.lft s = R := ⟨_, rfl⟩
  rw [hR] at hok ⊢
  try (simp)
  repeat (refine sR ?_; simp)
  by_cases e2 : R.2 = 0
  ·have h3 := validC_c s.l R.1 fl (hok e2).fit
   simp only [e2]
   refine sC ?_
   simp
   try (simp)
   repeat (refine sR ?_; simp)
   refine Stop.of_d (h3 _ _) ?_
   simp
   try (simp)
   repeat (refine sR ?_; simp)
   by_cases e3 : validC s.l R.1 = 0
   ·rw [show movR s c = (R.1, 0) by rw [movR, if_neg (by simp [e1]), hR, if_neg (by simp [e2]), if_neg (by simp [e3])]]
    simp only [e3]
    refine sC ?_
    simp
    try (simp)
    repeat (refine sR ?_; simp)
    refine sT ?_
    try simp only [AU]
    refine ⟨by simp, sF hbox htok (fun _ h => h) (Nat.le_refl _) ?_⟩
    simp [packA]
   ·rw [show movR s c = (cdOf 0 [], validC s.l R.1) by rw [movR, if_neg (by simp [e1]), hR, if_neg (by simp [e2]), if_pos e3], zav]
    have b3 : (validC s.l R.1 != 0) = true := by simp [e3]
    simp only [b3]
    refine sC ?_
    simp
    try (simp)
    repeat (refine sR ?_; simp)
    refine sT ?_
    try simp only [AU]
    refine ⟨by simp, sF hbox htok (fun _ h => h) (Nat.le_refl _) ?_⟩
    simp [packA]
  ·rw [show movR s c = (cdOf 0 [], R.2) by rw [movR, if_neg (by simp [e1]), hR, if_pos e2], zav]
   have b2 : (R.2 != 0) = true := by simp [e2]
   simp only [b2]
   refine sC ?_
   simp
   try (simp)
   repeat (refine sR ?_; simp)
   refine sT ?_
   try simp only [AU]
   refine ⟨by simp, sF hbox htok (fun _ h => h) (Nat.le_refl _) ?_⟩
   simp [packA]
 ·rw [show movR s c = (cdOf 0 [], validC s.r c) by rw [movR, if_pos e1], zav]
  have b1 : (validC s.r c != 0) = true := by simp [e1]
  simp only [b1]
  refine sC ?_
  simp
  try (simp)
  repeat (refine sR ?_; simp)
  refine sT ?_
  try simp only [AU]
  refine ⟨by simp, sF hbox htok (fun _ h => h) (Nat.le_refl _) ?_⟩
  simp [packA]
set_option maxRecDepth 100000 in
theorem leftP_c (r : Ru) (c : Cd) (hr : r.Fit) (hf : c.Fit) (tok : Tks) (nt : Nat) : DCall Tryz.prog 14 [r.av, c.av] tok nt (.tup [(leftR r c).1.av, I (leftR r c).2]) tok nt := by
 intro box nb
 have h1 := structural_c r hr
 have h2 := tof_c r
 have h3 := fun hs => moved_c r.sp c hs hf
 refine sB Tryz.func14 Tryz.ntmps14 ?_
 intro hbox htok
 simp only at hbox htok
 apply AL.start
 try (simp)
 repeat (refine sR ?_; simp)
 refine Stop.of_d (h1 _ _) ?_
 simp
 try (simp)
 repeat (refine sR ?_; simp)
 by_cases e1 : strR r = 0
 ·have hs := (strR_zero e1).1
  rw [show leftR r c = movR r.sp c by rw [leftR, if_neg (by simp [e1])]]
  simp only [e1]
  refine sC ?_
  simp
  try (simp)
  repeat (refine sR ?_; simp)
  refine Stop.of_d (h2 _ _) ?_
  simp
  try (simp)
  repeat (refine sR ?_; simp)
  refine Stop.of_d (h3 hs _ _) ?_
  simp
  try (simp)
  repeat (refine sR ?_; simp)
  refine sT ?_
  try simp only [AU]
  refine ⟨by simp, sF hbox htok (fun _ h => h) (Nat.le_refl _) ?_⟩
  simp [packA]
 ·rw [show leftR r c = (cdOf 0 [], strR r) by rw [leftR, if_pos e1], zav]
  have b1 : (strR r != 0) = true := by simp [e1]
  simp only [b1]
  refine sC ?_
  simp
  try (simp)
  repeat (refine sR ?_; simp)
  refine sT ?_
  try simp only [AU]
  refine ⟨by simp, sF hbox htok (fun _ h => h) (Nat.le_refl _) ?_⟩
  simp [packA]
theorem inverse_c (s : Sp) (hs : SpOk s) (tok : Tks) (nt : Nat) : DCall Tryz.prog 68 [spAv s] tok nt (spAv s.inv) tok nt := by
 intro box nb
 obtain ⟨fl, fr, fk, fi⟩ := hs.fit
 have s1 := sorted34_c s.i.nodes fi.n
 have s2 := sorted34_c s.i.edges fi.e
 have eJ := imgP_sort hs.i
 have hJ := imgP_vp hs.i
 have fJ := hJ.emb.fit.1
 have sJ := imgP_sub (y := s.r) (q := s.i)
 rw [eJ] at fJ sJ
 have vi := hs.i.vm
 have b1 := backwards_c (sortI s.i.nodes) s.i.nodes s.k.nodes fJ.n fi.n sJ.1 (by rw [vi.ln]; simp [exG])
 have b2 := backwards_c (sortI s.i.edges) s.i.edges s.k.edges fJ.e fi.e sJ.2 (by rw [vi.le]; simp [exG])
 have eN : s.inv = ⟨s.r, s.l, imgP s.r s.i, thenM (liftM s.i (imgP s.r s.i)) s.k⟩ := rfl
 rw [eJ] at eN
 simp only [thenM, liftM, List.length_map] at eN
 rw [eN]
 refine sB Tryz.func68 Tryz.ntmps68 ?_
 intro hbox htok
 simp only at hbox htok
 apply AL.start
 try (simp)
 repeat (refine sR ?_; simp)
 refine Stop.of_d (s1 _ _) ?_
 simp
 try (simp)
 repeat (refine sR ?_; simp)
 refine Stop.of_d (s2 _ _) ?_
 simp
 try (simp)
 repeat (refine sR ?_; simp)
 refine Stop.of_d (b1 _ _) ?_
 simp
 try (simp)
 repeat (refine sR ?_; simp)
 refine Stop.of_d (b2 _ _) ?_
 simp
 try (simp)
 repeat (refine sR ?_; simp)
 refine sT ?_
 try simp only [AU]
 refine ⟨by simp, sF hbox htok (fun _ h => h) (Nat.le_refl _) ?_⟩
 simp [packA]
set_option maxRecDepth 100000 in
theorem rightP_c (r : Ru) (c : Cd) (hr : r.Fit) (hf : c.Fit) (tok : Tks) (nt : Nat) : DCall Tryz.prog 21 [r.av, c.av] tok nt (.tup [(rightR r c).1.av, I (rightR r c).2]) tok nt := by
 intro box nb
 have h1 := structural_c r hr
 have h2 := tof_c r
 have h4 := inverse_c r.sp
 have h3 := fun hs => moved_c r.sp.inv c hs hf
 refine sB Tryz.func21 Tryz.ntmps21 ?_
 intro hbox htok
 simp only at hbox htok
 apply AL.start
 try (simp)
 repeat (refine sR ?_; simp)
 refine Stop.of_d (h1 _ _) ?_
 simp
 try (simp)
 repeat (refine sR ?_; simp)
 by_cases e1 : strR r = 0
 ·have hs := (strR_zero e1).1
  rw [show rightR r c = movR r.sp.inv c by rw [rightR, if_neg (by simp [e1])]]
  simp only [e1]
  refine sC ?_
  simp
  try (simp)
  repeat (refine sR ?_; simp)
  refine Stop.of_d (h2 _ _) ?_
  simp
  try (simp)
  repeat (refine sR ?_; simp)
  refine Stop.of_d (h4 hs _ _) ?_
  simp
  try (simp)
  repeat (refine sR ?_; simp)
  refine Stop.of_d (h3 (Sp.inv_ok hs) _ _) ?_
  simp
  try (simp)
  repeat (refine sR ?_; simp)
  refine sT ?_
  try simp only [AU]
  refine ⟨by simp, sF hbox htok (fun _ h => h) (Nat.le_refl _) ?_⟩
  simp [packA]
 ·rw [show rightR r c = (cdOf 0 [], strR r) by rw [rightR, if_pos e1], zav]
  have b1 : (strR r != 0) = true := by simp [e1]
  simp only [b1]
  refine sC ?_
  simp
  try (simp)
  repeat (refine sR ?_; simp)
  refine sT ?_
  try simp only [AU]
  refine ⟨by simp, sF hbox htok (fun _ h => h) (Nat.le_refl _) ?_⟩
  simp [packA]
end Go.AM
namespace Go.AM
open Go
def kap (f g : List Int) (b c : Nat) : Prop := ∃ j, j < f.length ∧ atN f j = b ∧ atN g j = c
theorem kap_flip {f g : List Int} (h : f.length = g.length) : (fun a b => kap f g b a) = kap g f := by
 funext a b
 refine propext ⟨?_, ?_⟩
 ·rintro ⟨j, h1, h2, h3⟩; exact ⟨j, by omega, h3, h2⟩
 ·rintro ⟨j, h1, h2, h3⟩; exact ⟨j, by omega, h3, h2⟩
theorem po_lyr {nl nr na nc nP nx : Nat} {f i gg pl pr zz m : Nat → Nat} {K J : Nat → Nat → Prop} (fl : ∀ j, j < na → f j < nl) (ir : ∀ j, j < na → i j < nr) (gc : ∀ j, j < na → gg j < nc)
  (plr : ∀ b, b < nl → pl b < nP) (prr : ∀ z, z < nc → pr z < nP) (pli : ∀ b b', b < nl → b' < nl → pl b = pl b' → b = b') (pri : ∀ b b', b < nc → b' < nc → pr b = pr b' → b = b')
  (hj : ∀ u, u < nP → (∃ b, b < nl ∧ pl b = u) ∨ ∃ z, z < nc ∧ pr z = u) (ho : ∀ b z, b < nl → z < nc → pl b = pr z → ∃ j, j < na ∧ f j = b ∧ gg j = z) (hc : ∀ j, j < na → pl (f j) = pr (gg j))
  (zr : ∀ z, z < nc → zz z < nx) (zi : ∀ b b', b < nc → b' < nc → zz b = zz b' → b = b') (mr : ∀ a, a < nr → m a < nx) (mi : ∀ a a', a < nr → a' < nr → m a = m a' → a = a') (hm : ∀ j, j < na → m (i j) = zz (gg j))
  (hz : ∀ v, v < nx → ((∃ z, z < nc ∧ zz z = v) ↔ ¬ ∃ a, a < nr ∧ m a = v ∧ ¬ ∃ j, j < na ∧ i j = a))
  (hK : ∀ b b', K b b' ↔ ∃ j, j < na ∧ f j = b ∧ i j = b') (hJ : ∀ u v, J u v ↔ ∃ z, z < nc ∧ pr z = u ∧ zz z = v) : Lyr nl nr nP nx pl m K J := by
 refine ⟨fun u v v' h1 h2 => ?_, fun u u' v h1 h2 => ?_, fun u hu => ?_, fun v hv => ?_, fun b b' hk => ?_, fun u v h => ?_, fun b b' h => ?_, plr, mr, pli, mi⟩
 ·obtain ⟨z, z1, z2, z3⟩ := (hJ _ _).1 h1
  obtain ⟨y, y1, y2, y3⟩ := (hJ _ _).1 h2
  have := pri _ _ z1 y1 (by rw [z2, y2])
  subst this
  rw [← z3, ← y3]
 ·obtain ⟨z, z1, z2, z3⟩ := (hJ _ _).1 h1
  obtain ⟨y, y1, y2, y3⟩ := (hJ _ _).1 h2
  have := zi _ _ z1 y1 (by rw [z3, y3])
  subst this
  rw [← z2, ← y2]
 ·constructor
  ·rintro ⟨v, h⟩ ⟨b, b1, b2, b3⟩
   obtain ⟨z, z1, z2, z3⟩ := (hJ _ _).1 h
   obtain ⟨j, j1, j2, j3⟩ := ho b z b1 z1 (by rw [b2, z2])
   exact b3 ⟨i j, (hK _ _).2 ⟨j, j1, j2, rfl⟩⟩
  ·intro h
   rcases hj u hu with ⟨b, b1, b2⟩ | ⟨z, z1, z2⟩
   ·have h3 : ∃ a', K b a' := Classical.byContradiction fun hn => h ⟨b, b1, b2, hn⟩
    obtain ⟨a', ha⟩ := h3
    obtain ⟨j, j1, j2, j3⟩ := (hK _ _).1 ha
    exact ⟨zz (gg j), (hJ _ _).2 ⟨gg j, gc _ j1, by rw [← hc _ j1, j2, b2], rfl⟩⟩
   ·exact ⟨zz z, (hJ _ _).2 ⟨z, z1, z2, rfl⟩⟩
 ·have e1 : (∃ b, J b v) ↔ ∃ z, z < nc ∧ zz z = v := by
   constructor
   ·rintro ⟨b, h⟩
    obtain ⟨z, z1, z2, z3⟩ := (hJ _ _).1 h
    exact ⟨z, z1, z3⟩
   ·rintro ⟨z, z1, z3⟩
    exact ⟨pr z, (hJ _ _).2 ⟨z, z1, rfl, z3⟩⟩
  rw [e1, hz v hv]
  refine not_congr <| exists_congr fun a => and_congr_right fun _ => and_congr_right fun _ => not_congr ⟨?_, ?_⟩
  ·rintro ⟨j, j1, j2⟩; exact ⟨f j, (hK _ _).2 ⟨j, j1, rfl, j2⟩⟩
  ·rintro ⟨a', h⟩
   obtain ⟨j, j1, _, j2⟩ := (hK _ _).1 h
   exact ⟨j, j1, j2⟩
 ·obtain ⟨j, j1, j2, j3⟩ := (hK _ _).1 hk
  exact (hJ _ _).2 ⟨gg j, gc _ j1, by rw [← hc _ j1, j2], by rw [← hm _ j1, j3]⟩
 ·obtain ⟨z, z1, z2, z3⟩ := (hJ _ _).1 h
  exact ⟨by rw [← z2]; exact prr _ z1, by rw [← z3]; exact zr _ z1⟩
 ·obtain ⟨j, j1, j2, j3⟩ := (hK _ _).1 h
  exact ⟨by rw [← j2]; exact fl _ j1, by rw [← j3]; exact ir _ j1⟩
theorem atN_iota {n i : Nat} (h : i < n) : atN (iota n) i = i := by
 unfold atN
 rw [iota_getD h]
 rfl
theorem gi_sides {α : Type} [Inhabited α] {an bn rn : List α} {F G r : List Int} {k : Nat} (g : GI an bn (mtI F G k) k rn r) (hl : F.length = G.length) (hF : ∀ x ∈ F, 0 ≤ x ∧ x < an.length) (hG : G.Nodup) (rG : ∀ x ∈ G, 0 ≤ x ∧ x < k) :
  (∀ u, u < rn.length → (∃ b, b < an.length ∧ atN (iota an.length) b = u) ∨ ∃ z, z < k ∧ atN r z = u) ∧
  (∀ b z, b < an.length → z < k → atN (iota an.length) b = atN r z → ∃ j, j < F.length ∧ atN F j = b ∧ atN G j = z) ∧
  (∀ j, j < F.length → atN (iota an.length) (atN F j) = atN r (atN G j)) ∧ ∀ z, z < k → atN r z < rn.length := by
 refine ⟨fun u hu => ?_, fun b z hb hz e => ?_, fun j hj => ?_, fun z hz => ?_⟩
 ·by_cases h : u < an.length
  ·exact .inl ⟨u, h, atN_iota h⟩
  ·obtain ⟨z, hz, e⟩ := mem_getD (g.cov u (by omega) hu)
   rw [g.len] at hz
   exact .inr ⟨z, hz, by unfold atN; rw [e]; rfl⟩
 ·rw [atN_iota hb] at e
  have h1 := g.rng z hz
  rcases mtI_cases (F := F) (G := G) hz with ⟨h2, _⟩ | ⟨i, h2, h3, h4⟩
  ·have := g.neg z hz (by rw [h2]; decide)
   unfold atN at e
   omega
  ·have h5 := hF _ (getD_mem (d := 0) (show i < F.length by omega))
   have := g.pos z hz (by rw [h4]; omega)
   refine ⟨i, by omega, ?_, ?_⟩
   ·rw [e]; unfold atN; rw [this, h4]
   ·unfold atN; rw [h3]; rfl
 ·have h1 := hF _ (getD_mem (d := 0) hj)
  have h2 := rG _ (getD_mem (d := 0) (show j < G.length by omega))
  have h3 := mtI_at (F := F) (G := G) (n := k) hG rG (show j < G.length by omega)
  have h4 : atN F j < an.length := by unfold atN; omega
  rw [atN_iota h4]
  have h5 : atN G j < k := by unfold atN; omega
  have h6 : (mtI F G k).getD (atN G j) 0 = F.getD j 0 := h3
  have := g.pos _ h5 (by rw [h6]; omega)
  show atN F j = (r.getD (atN G j) 0).toNat
  rw [this, h6]
  rfl
 ·have := g.rng z hz
  unfold atN
  omega
theorem po_stp {a0 l r c x : Gr} {f i gg m zz : Mo} (hf : Emb a0 l f) (hg : Emb a0 c gg) (hi : Emb a0 r i) (hm : Emb r x m) (hz : Emb c x zz) (hc : thenM i m = thenM gg zz)
  (hs : l.nodes.length + c.nodes.length ≤ 40 ∧ l.edges.length + c.edges.length ≤ 80)
  (zn : ∀ v, v < x.nodes.length → ((∃ z, z < c.nodes.length ∧ atN zz.nodes z = v) ↔ ¬ ∃ a, a < r.nodes.length ∧ atN m.nodes a = v ∧ ¬ ∃ j, j < a0.nodes.length ∧ atN i.nodes j = a))
  (ze : ∀ v, v < x.edges.length → ((∃ z, z < c.edges.length ∧ atN zz.edges z = v) ↔ ¬ ∃ a, a < r.edges.length ∧ atN m.edges a = v ∧ ¬ ∃ j, j < a0.edges.length ∧ atN i.edges j = a)) :
  Stp l r (pushO l c f gg).g x (pushO l c f gg).l m (kap f.nodes i.nodes) (kap f.edges i.edges) (kap (pushO l c f gg).r.nodes zz.nodes) (kap (pushO l c f gg).r.edges zz.edges) := by
 obtain ⟨pv, pl, pr⟩ := pushO_emb hf hg hs
 have hp := spn_pair hf hg
 obtain ⟨gn, ge⟩ := glued_of (validG_edges hf.vm.vb) (validG_edges hg.vm.vb) hp
 have hln := hf.vm.ln
 have hle := hf.vm.le
 have sn := gi_sides gn (by rw [hf.vm.ln, hg.vm.ln]) hf.vm.n hg.n hg.vm.n
 have se := gi_sides ge (by rw [hf.vm.le, hg.vm.le]) hf.vm.e hg.e hg.vm.e
 rw [hle] at se
 rw [hln] at sn
 obtain ⟨n1, n2, n3, n4⟩ := sn
 obtain ⟨e1, e2, e3, e4⟩ := se
 have inj : ∀ {a b : Gr} {m : Mo}, Emb a b m → ∀ u u', u < a.nodes.length → u' < a.nodes.length → atN m.nodes u = atN m.nodes u' → u = u' := fun h u u' hu hu' e => atN_inj h.n h.vm.n (by rw [h.vm.ln]; exact hu) (by rw [h.vm.ln]; exact hu') e
 have injE : ∀ {a b : Gr} {m : Mo}, Emb a b m → ∀ u u', u < a.edges.length → u' < a.edges.length → atN m.edges u = atN m.edges u' → u = u' := fun h u u' hu hu' e => atN_inj h.e h.vm.e (by rw [h.vm.le]; exact hu) (by rw [h.vm.le]; exact hu') e
 have cn : ∀ j, j < a0.nodes.length → atN m.nodes (atN i.nodes j) = atN zz.nodes (atN gg.nodes j) := fun j hj => by
  have h := congrArg (fun q => atN q.nodes j) hc
  simp only [thenM] at h
  rwa [atN_byK (by rw [hi.vm.ln]; exact hj), atN_byK (by rw [hg.vm.ln]; exact hj)] at h
 have ce : ∀ j, j < a0.edges.length → atN m.edges (atN i.edges j) = atN zz.edges (atN gg.edges j) := fun j hj => by
  have h := congrArg (fun q => atN q.edges j) hc
  simp only [thenM] at h
  rwa [atN_byK (by rw [hi.vm.le]; exact hj), atN_byK (by rw [hg.vm.le]; exact hj)] at h
 refine ⟨pl, hm, ?_, ?_, fun u v h => ?_, fun u v h => ?_⟩
 ·exact po_lyr (na := a0.nodes.length) (nc := c.nodes.length) (f := atN f.nodes) (i := atN i.nodes) (gg := atN gg.nodes) (pr := atN (pushO l c f gg).r.nodes) (zz := atN zz.nodes) (fun j hj => (hf.at hj).2) (fun j hj => (hi.at hj).2) (fun j hj => (hg.at hj).2) (fun b hb => (pl.at hb).2) (fun z hz' => (pr.at hz').2) (inj pl) (inj pr) n1 n2 n3
   (fun z h => (hz.at h).2) (inj hz) (fun a ha => (hm.at ha).2) (inj hm) cn zn (fun b b' => by rw [kap, hln]) (fun u v => by rw [kap, pr.vm.ln])
 ·exact po_lyr (na := a0.edges.length) (nc := c.edges.length) (f := atN f.edges) (i := atN i.edges) (gg := atN gg.edges) (pr := atN (pushO l c f gg).r.edges) (zz := atN zz.edges) (fun j hj => (hf.atE hj).2) (fun j hj => (hi.atE hj).2) (fun j hj => (hg.atE hj).2) (fun b hb => (pl.atE hb).2) (fun z hz' => (pr.atE hz').2) (injE pl) (injE pr) e1 e2 e3
   (fun z h => (hz.atE h).2) (injE hz) (fun a ha => (hm.atE ha).2) (injE hm) ce ze (fun b b' => by rw [kap, hle]) (fun u v => by rw [kap, pr.vm.le])
 ·obtain ⟨z, h1, h2, h3⟩ := h
  rw [pr.vm.ln] at h1
  rw [← h2, ← h3, pr.an h1, hz.an h1]
 ·obtain ⟨z, h1, h2, h3⟩ := h
  rw [pr.vm.le] at h1
  obtain ⟨a1, a2, a3⟩ := pr.ae h1
  obtain ⟨b1, b2, b3⟩ := hz.ae h1
  obtain ⟨c1, c2⟩ := hz.ends h1
  rw [← h2, ← h3, a1, a2, a3, b1, b2, b3]
  exact ⟨rfl, ⟨_, by rw [pr.vm.ln]; exact c1.2, rfl, rfl⟩, ⟨_, by rw [pr.vm.ln]; exact c2.2, rfl, rfl⟩⟩
theorem rest_img {n nr na : Nat} {images keep : List Int} {i : Nat → Nat} (hl : images.length = nr) (hr : ∀ x ∈ images, 0 ≤ x ∧ x < n) (hk : ∀ a, a < nr → ((a : Int) ∈ keep ↔ ∃ j, j < na ∧ i j = a)) :
  ∀ v, v < n → ((∃ z, z < (restI n images keep).length ∧ atN (restI n images keep) z = v) ↔ ¬ ∃ a, a < nr ∧ atN images a = v ∧ ¬ ∃ j, j < na ∧ i j = a) := fun v hv => by
 have e1 : (∃ z, z < (restI n images keep).length ∧ atN (restI n images keep) z = v) ↔ (v : Int) ∈ restI n images keep := by
  constructor
  ·rintro ⟨z, z1, z2⟩
   have h1 := getD_mem (d := 0) z1
   have h2 := (restI_mem.1 h1).1
   have : (v : Int) = (restI n images keep).getD z 0 := by rw [← z2]; unfold atN; omega
   rw [this]
   exact h1
  ·intro h
   obtain ⟨z, z1, z2⟩ := mem_getD h
   exact ⟨z, z1, by unfold atN; rw [z2]; rfl⟩
 rw [e1, restI_mem]
 constructor
 ·rintro ⟨_, h⟩ ⟨a, a1, a2, a3⟩
  refine h (goneI_mem.2 ⟨a, by omega, fun hc => a3 ((hk a a1).1 hc), ?_⟩)
  have := hr _ (getD_mem (d := 0) (show a < images.length by omega))
  rw [← a2]
  unfold atN
  omega
 ·intro h
  refine ⟨⟨by omega, by omega⟩, fun hg => ?_⟩
  obtain ⟨a, a1, a2, a3⟩ := goneI_mem.1 hg
  exact h ⟨a, by omega, by unfold atN; rw [a3]; rfl, fun hc => a2 ((hk a (by omega)).2 hc)⟩
theorem inv_kap {q z : List Int} {n : Nat} (hq : q.Nodup) (hr : ∀ x ∈ q, 0 ≤ x ∧ x < n) : kap (ascL q n) (byK ((ascL q n).map (indexI q)) z ((ascL q n).map (indexI q)).length) = kap q z := by
 funext u v
 refine propext ⟨?_, ?_⟩
 ·rintro ⟨j, h1, h2, h3⟩
  rw [atN_byK (by rw [List.length_map]; exact h1)] at h3
  have h4 := getD_mem (d := 0) h1
  have h5 := (ascL_mem.1 h4).1
  have h6 := indexI_in h5
  have e : atN ((ascL q n).map (indexI q)) j = (indexI q ((ascL q n).getD j 0)).toNat := by unfold atN; rw [mapI_getD h1]
  rw [e] at h3
  exact ⟨_, by omega, by unfold atN at h2 ⊢; rw [h6.2.2]; exact h2, h3⟩
 ·rintro ⟨t, h1, h2, h3⟩
  have h4 := getD_mem (d := 0) h1
  obtain ⟨j, j1, j2⟩ := mem_getD (ascL_mem.2 ⟨h4, hr _ h4⟩)
  refine ⟨j, j1, by unfold atN at h2 ⊢; rw [j2]; exact h2, ?_⟩
  rw [atN_byK (by rw [List.length_map]; exact j1)]
  have e : atN ((ascL q n).map (indexI q)) j = t := by unfold atN; rw [mapI_getD j1, j2, indexI_gd hq h1]; rfl
  rw [e]
  exact h3
def Sp.KN (s : Sp) : Nat → Nat → Prop := kap s.k.nodes s.i.nodes
def Sp.KE (s : Sp) : Nat → Nat → Prop := kap s.k.edges s.i.edges
theorem img_keep {a0 r : Gr} {i : Mo} (hi : Emb a0 r i) : (∀ a, a < r.nodes.length → ((a : Int) ∈ (imgP r i).nodes ↔ ∃ j, j < a0.nodes.length ∧ atN i.nodes j = a)) ∧ ∀ a, a < r.edges.length → ((a : Int) ∈ (imgP r i).edges ↔ ∃ j, j < a0.edges.length ∧ atN i.edges j = a) := by
 have key : ∀ (l : List Int) (n m : Nat), l.length = m → (∀ x ∈ l, 0 ≤ x ∧ x < n) → ∀ a, a < n → ((a : Int) ∈ ascL l n ↔ ∃ j, j < m ∧ atN l j = a) := fun l n m hl hr a ha => by
  rw [ascL_mem]
  constructor
  ·rintro ⟨h, _⟩
   obtain ⟨j, j1, j2⟩ := mem_getD h
   exact ⟨j, by omega, by unfold atN; rw [j2]; rfl⟩
  ·rintro ⟨j, j1, j2⟩
   have h1 := getD_mem (d := 0) (show j < l.length by omega)
   have h2 := hr _ h1
   have : (a : Int) = l.getD j 0 := by rw [← j2]; unfold atN; omega
   rw [this]
   exact ⟨h1, by omega, by omega⟩
 exact ⟨key _ _ _ hi.vm.ln hi.vm.n, key _ _ _ hi.vm.le hi.vm.e⟩
theorem inn_kap {c y x : Gr} {q z : Mo} (hq : Emb c y q) : (Sp.mk y x (imgP y q) (thenM (liftM q (imgP y q)) z)).KN = kap q.nodes z.nodes ∧ (Sp.mk y x (imgP y q) (thenM (liftM q (imgP y q)) z)).KE = kap q.edges z.edges :=
 ⟨inv_kap hq.n hq.vm.n, inv_kap hq.e hq.vm.e⟩
theorem Sp.inn_stp {s : Sp} (h : SpOk s) {m : Mo} {x : Gr} (hm : Emb s.r x m) (hd : s.dng m x = false) (hb : ¬ s.big m x) : Stp s.l s.r (s.po m x).g x (s.po m x).l m s.KN s.KE (s.inn m x).KN (s.inn m x).KE := by
 have hz := Sp.z_vp h hm hd
 have hg := Sp.go_emb h hm hd
 have hsub := Sp.go_sub h hm
 have hpe := Sp.po_emb h hm hd hb
 obtain ⟨k1, k2⟩ := img_keep h.i
 have hc : thenM s.i m = thenM (s.go m x) (s.z m x) := (lift_then hsub.1 hsub.2).symm
 have ln : (s.rest m x).nodes.length = (s.z m x).nodes.length := by simp [Sp.rest, exG]
 have le : (s.rest m x).edges.length = (s.z m x).edges.length := by simp [Sp.rest, exG]
 have zn := rest_img (n := x.nodes.length) hm.vm.ln hm.vm.n k1
 have ze := rest_img (n := x.edges.length) hm.vm.le hm.vm.e k2
 have en : restI x.nodes.length m.nodes (imgP s.r s.i).nodes = (s.z m x).nodes := rfl
 have ee : restI x.edges.length m.edges (imgP s.r s.i).edges = (s.z m x).edges := rfl
 rw [en, ← ln] at zn
 rw [ee, ← le] at ze
 have hzz : Emb (s.rest m x) x (s.z m x) := hz.emb
 have := po_stp h.k.emb hg h.i hm hzz hc (by unfold Sp.big at hb; omega) zn ze
 have e1 : (s.inn m x).KN = kap (s.po m x).r.nodes (s.z m x).nodes := (inn_kap (z := s.z m x) hpe.2.2).1
 have e2 : (s.inn m x).KE = kap (s.po m x).r.edges (s.z m x).edges := (inn_kap (z := s.z m x) hpe.2.2).2
 rw [e1, e2]
 exact this
theorem Sp.inv_kap {s : Sp} (h : SpOk s) : s.inv.KN = (fun a b => s.KN b a) ∧ s.inv.KE = fun a b => s.KE b a := by
 have l1 : s.k.nodes.length = s.i.nodes.length := by rw [h.i.vm.ln, h.k.emb.vm.ln]
 have l2 : s.k.edges.length = s.i.edges.length := by rw [h.i.vm.le, h.k.emb.vm.le]
 have e1 : s.inv.KN = kap s.i.nodes s.k.nodes := Go.AM.inv_kap h.i.n h.i.vm.n
 have e2 : s.inv.KE = kap s.i.edges s.k.edges := Go.AM.inv_kap h.i.e h.i.vm.e
 rw [e1, e2]
 exact ⟨(kap_flip l1).symm, (kap_flip l2).symm⟩
theorem stp_dng {s : Sp} (h : SpOk s) {m n q : Mo} {x g hh : Gr} {a : Mo} {FN FE : Nat → Nat → Prop} (hm : Emb s.r x a) (t : Stp s.l s.r g hh m n s.KN s.KE FN FE) (hq : Emb x hh q) (hn : thenM a q = n) : s.dng a x = false := by
 cases hd : s.dng a x
 ·rfl
 exfalso
 unfold Sp.dng dangL at hd
 rw [List.any_eq_true] at hd
 obtain ⟨e, he, hd⟩ := hd
 have hel := List.mem_range.1 he
 simp only [decide_eq_true_eq] at hd
 obtain ⟨d1, d2⟩ := hd
 have an : ∀ b, b < s.r.nodes.length → atN q.nodes (atN a.nodes b) = atN n.nodes b := fun b hb => by
  rw [← hn]; exact (atN_byK (by rw [hm.vm.ln]; exact hb)).symm
 have ae : ∀ b, b < s.r.edges.length → atN q.edges (atN a.edges b) = atN n.edges b := fun b hb => by
  rw [← hn]; exact (atN_byK (by rw [hm.vm.le]; exact hb)).symm
 have hE : ∃ b, FE b (atN q.edges e) := by
  rw [t.le.r _ (hq.atE hel).2]
  rintro ⟨b, b1, b2, _⟩
  have : atN a.edges b = e := atN_inj hq.e hq.vm.e (by rw [hq.vm.le]; exact (hm.atE b1).2) (by rw [hq.vm.le]; exact hel) (by rw [ae _ b1, b2])
  refine d1 ?_
  rw [← this, (hm.atE b1).1]
  exact getD_mem (by rw [hm.vm.le]; exact b1)
 obtain ⟨b, hb⟩ := hE
 obtain ⟨_, t2, t3⟩ := t.te _ _ hb
 obtain ⟨_, q2, q3⟩ := hq.ae hel
 rw [q2] at t2
 rw [q3] at t3
 have key : ∀ y : Int, y ∈ goneI a.nodes (imgP s.r s.i).nodes → ∀ b', FN b' (atN q.nodes y.toNat) → False := fun y hy b' hf => by
  obtain ⟨i, i1, i2, i3⟩ := goneI_mem.1 hy
  have i1' : i < s.r.nodes.length := by rw [← hm.vm.ln]; exact i1
  have e1 : y.toNat = atN a.nodes i := by unfold atN; rw [i3]
  rw [e1, an _ i1'] at hf
  refine (t.ln.r _ (t.ln.nr' _ i1')).1 ⟨b', hf⟩ ⟨i, i1', rfl, ?_⟩
  rintro ⟨c, j, j1, j2, j3⟩
  have l1 : s.k.nodes.length = s.i.nodes.length := by rw [h.i.vm.ln, h.k.emb.vm.ln]
  exact i2 (((img_keep h.i).1 i i1').2 ⟨j, by rw [← h.i.vm.ln]; omega, j3⟩)
 rcases d2 with d2 | d2
 ·exact key _ d2 _ t2
 ·exact key _ d2 _ t3
theorem no_hol (g : Gr) (q : Mo) : noC.hol g q = false := by
 rw [Cd.hol_eq]
 show (!(([cdOf 1 []].map fun y => Cd.hol y g q).headD false)) = false
 have : (cdOf 1 []).hol g q = true := by rw [Cd.hol_eq]; rfl
 simp [this]
theorem lft_hol : ∀ (n : Nat) (c : Cd), SizeOf.sizeOf c < n → ∀ s, SpOk s → c.ovr s.r = 0 → (c.lft s).2 = 0 → ∀ g h m k FN FE, Stp s.l s.r g h m k s.KN s.KE FN FE → (c.lft s).1.hol g m = c.hol h k
 | 0, c, hn, _, _, _, _, _, _, _, _, _, _, _ => absurd hn (Nat.not_lt_zero _)
 | n + 1, c, hn, s, hs, hv, hz, g, h, m, k, FN, FE, t => by
  have ih := fun x (hx : x ∈ c.kids) => lft_hol n x (by have := Cd.kid_lt hx; omega)
  obtain ⟨h0, h1, h2⟩ := Cd.ovr_zero hv
  rw [c.lft_eq] at hz ⊢
  unfold lftStep at hz ⊢
  by_cases k5 : c.kind = 5
  ·rw [if_neg (by simp [k5])] at hz ⊢
   obtain ⟨hm, x, hkx⟩ := ovr_ex hv k5
   by_cases hd : s.dng c.m c.g = true
   ·rw [if_pos hd]
    simp only
    rw [no_hol]
    cases hc : c.hol h k
    ·rfl
    ·exfalso
     obtain ⟨q, q1, q2, _⟩ := (ex_hol k5 hkx hm t.en).1 hc
     have := stp_dng hs hm t q1 q2
     rw [hd] at this
     cases this
   ·rw [if_neg hd] at hz ⊢
    have hd' : s.dng c.m c.g = false := by simpa using hd
    by_cases hb : s.big c.m c.g
    ·rw [if_pos hb] at hz; cases hz
    ·rw [if_neg hb] at hz ⊢
     have hk := Sp.inn_ok hs hm hd' hb
     obtain ⟨p1, p2, p3⟩ := Sp.po_emb hs hm hd' hb
     have hst := Sp.inn_stp hs hm hd' hb
     split at hz
     ·contradiction
     ·rename_i h3
      rw [if_neg h3]
      have h3' := Decidable.not_not.1 h3
      rw [hkx] at h3' ⊢
      obtain ⟨e1, e2⟩ := kidsE_all h3'
      have hi : c.inn s.r = c.g := if_pos k5
      rw [hi] at h2
      have hx := ih x (by rw [hkx]; simp) (s.inn c.m c.g) hk (h2 x (by rw [hkx]; simp)) (e2 x (by simp))
      simp only [e1, List.map_cons, List.map_nil]
      rw [Bool.eq_iff_iff, ex_hol k5 hkx hm t.en, ex_hol (c := .mk 5 [(x.lft (s.inn c.m c.g)).1] (s.po c.m c.g).l (s.po c.m c.g).g [] 0 []) rfl rfl p2 t.em]
      constructor
      ·rintro ⟨q', q1, q2, q3⟩
       obtain ⟨q, r1, r2, r3⟩ := hst.ext t q1 q2
       exact ⟨q, r1, r2, by rw [← hx g h q' q FN FE r3]; exact q3⟩
      ·rintro ⟨q, q1, q2, q3⟩
       obtain ⟨q', r1, r2, r3⟩ := hst.symm.ext t.symm q1 q2
       exact ⟨q', r1, r2, by
        have := hx g h q' q FN FE r3.symm
        show (x.lft (s.inn c.m c.g)).1.hol g q' = true
        rw [this]; exact q3⟩
  ·rw [if_pos k5] at hz ⊢
   split at hz
   ·contradiction
   ·rename_i h3
    rw [if_neg h3]
    obtain ⟨e1, e2⟩ := kidsE_all (Decidable.not_not.1 h3)
    have hi : c.inn s.r = s.r := if_neg k5
    rw [hi] at h2
    have key : (c.kids.map (fun x => (x.lft s).1)).map (fun x => x.hol g m) = c.kids.map fun x => x.hol h k := by
     rw [List.map_map]
     exact List.map_congr_left fun x hx => ih x hx s hs (h2 x hx) (e2 x hx) g h m k FN FE t
    simp only [e1]
    rw [cdOf_hol _ _ _ _ k5, key, Cd.hol_eq, holStep]
    simp only [if_neg k5]
theorem depL_le {l : List Cd} {x : Cd} (h : x ∈ l) : x.dep ≤ Cd.depL l := by
 induction l with
 | nil => simp at h
 | cons y r ih =>
  simp only [Cd.depL]
  rcases List.mem_cons.1 h with rfl | h
  ·omega
  ·have := ih h; omega
theorem cdL_map {f : Cd → Cd} : ∀ l : List Cd, (∀ x ∈ l, (f x).cnt ≤ x.cnt ∧ (f x).dep ≤ x.dep) → Cd.cntL (l.map f) ≤ Cd.cntL l ∧ Cd.depL (l.map f) ≤ Cd.depL l
 | [], _ => ⟨Nat.le_refl _, Nat.le_refl _⟩
 | x :: r, h => by
  have h1 := h x (by simp)
  have h2 := cdL_map r fun y hy => h y (by simp [hy])
  simp only [List.map_cons, Cd.cntL, Cd.depL]
  omega
theorem cnt_one (c : Cd) : 1 ≤ c.cnt := by rw [Cd.cnt_eq]; omega
theorem lft_cd : ∀ (n : Nat) (c : Cd), SizeOf.sizeOf c < n → ∀ s, c.ovr s.r = 0 → (c.lft s).2 = 0 → (c.lft s).1.cnt ≤ c.cnt ∧ (c.lft s).1.dep ≤ c.dep
 | 0, c, hn, _, _, _ => absurd hn (Nat.not_lt_zero _)
 | n + 1, c, hn, s, hv, hz => by
  have ih := fun x (hx : x ∈ c.kids) => lft_cd n x (by have := Cd.kid_lt hx; omega)
  obtain ⟨h0, h1, h2⟩ := Cd.ovr_zero hv
  have c1 := c.cnt_eq
  have c2 := c.dep_eq
  rw [c.lft_eq] at hz ⊢
  unfold lftStep at hz ⊢
  by_cases k5 : c.kind = 5
  ·rw [if_neg (by simp [k5])] at hz ⊢
   obtain ⟨hm, x, hkx⟩ := ovr_ex hv k5
   by_cases hd : s.dng c.m c.g = true
   ·rw [if_pos hd]
    have hno : noC.cnt = 2 ∧ noC.dep = 0 := by simp [cdOf, Cd.cnt, Cd.cntL, Cd.dep, Cd.depL]
    have hx1 := cnt_one x
    rw [hkx] at c1
    simp only [Cd.cntL] at c1
    simp only
    omega
   ·rw [if_neg hd] at hz ⊢
    by_cases hb : s.big c.m c.g
    ·rw [if_pos hb] at hz; cases hz
    ·rw [if_neg hb] at hz ⊢
     split at hz
     ·contradiction
     ·rename_i h3
      rw [if_neg h3]
      have h3' := Decidable.not_not.1 h3
      rw [hkx] at h3' c1 c2 ⊢
      obtain ⟨e1, e2⟩ := kidsE_all h3'
      have hi : c.inn s.r = c.g := if_pos k5
      rw [hi] at h2
      have hx := ih x (by rw [hkx]; simp) (s.inn c.m c.g) (h2 x (by rw [hkx]; simp)) (e2 x (by simp))
      simp only [e1, List.map_cons, List.map_nil]
      simp only [Cd.cntL, Cd.depL] at c1 c2
      have d1 : (Cd.mk 5 [(x.lft (s.inn c.m c.g)).1] (s.po c.m c.g).l (s.po c.m c.g).g [] 0 []).cnt = 1 + ((x.lft (s.inn c.m c.g)).1.cnt + 0) := by simp [Cd.cnt, Cd.cntL]
      have d2 : (Cd.mk 5 [(x.lft (s.inn c.m c.g)).1] (s.po c.m c.g).l (s.po c.m c.g).g [] 0 []).dep = max (x.lft (s.inn c.m c.g)).1.dep 0 + 1 := by simp [Cd.dep, Cd.depL]
      rw [if_pos k5] at c2
      omega
  ·rw [if_pos k5] at hz ⊢
   split at hz
   ·contradiction
   ·rename_i h3
    rw [if_neg h3]
    obtain ⟨e1, e2⟩ := kidsE_all (Decidable.not_not.1 h3)
    have hi : c.inn s.r = s.r := if_neg k5
    rw [hi] at h2
    have key := cdL_map (f := fun x => (x.lft s).1) c.kids fun x hx => ih x hx s (h2 x hx) (e2 x hx)
    simp only [e1]
    have d1 := Cd.cnt_eq (cdOf c.kind (c.kids.map (fun x => (x.lft s).1)))
    have d2 := Cd.dep_eq (cdOf c.kind (c.kids.map (fun x => (x.lft s).1)))
    have d3 : (cdOf c.kind (c.kids.map (fun x => (x.lft s).1))).kids = c.kids.map (fun x => (x.lft s).1) := rfl
    have d4 : (cdOf c.kind (c.kids.map (fun x => (x.lft s).1))).kind = c.kind := rfl
    rw [d3] at d1 d2
    rw [d4, if_neg k5] at d2
    rw [if_neg k5] at c2
    omega
inductive GB (N E : Nat) : Cd → Prop
 | mk {c : Cd} : (c.kind = 5 → c.g.nodes.length ≤ N ∧ c.g.edges.length ≤ E) → (∀ x ∈ c.kids, GB N E x) → GB N E c
theorem lft_none {N E : Nat} : ∀ (n : Nat) (c : Cd), SizeOf.sizeOf c < n → GB N E c → ∀ s, SpOk s → c.ovr s.r = 0 → s.l.nodes.length + N * c.dep ≤ 40 → s.l.edges.length + E * c.dep ≤ 80 → (c.lft s).2 = 0
 | 0, c, hn, _, _, _, _, _, _ => absurd hn (Nat.not_lt_zero _)
 | n + 1, c, hn, hgb, s, hs, hv, b1, b2 => by
  have ih := fun x (hx : x ∈ c.kids) => lft_none n x (by have := Cd.kid_lt hx; omega) (by cases hgb with | mk _ h => exact h x hx)
  obtain ⟨h0, h1, h2⟩ := Cd.ovr_zero hv
  have c2 := c.dep_eq
  rw [c.lft_eq]
  unfold lftStep
  by_cases k5 : c.kind = 5
  ·rw [if_neg (by simp [k5])]
   rw [if_pos k5] at c2
   obtain ⟨hm, x, hkx⟩ := ovr_ex hv k5
   have hN : c.g.nodes.length ≤ N ∧ c.g.edges.length ≤ E := by cases hgb with | mk h _ => exact h k5
   by_cases hd : s.dng c.m c.g = true
   ·rw [if_pos hd]
   ·rw [if_neg hd]
    have hd' : s.dng c.m c.g = false := by simpa using hd
    have hzl := (Sp.z_vp hs hm hd').len
    have hrl : (s.rest c.m c.g).nodes.length ≤ N ∧ (s.rest c.m c.g).edges.length ≤ E := by
     simp only [Sp.rest, exG, List.length_map]
     omega
    have hxd : x.dep ≤ Cd.depL c.kids := depL_le (by rw [hkx]; simp)
    have m1 : N * c.dep = N * Cd.depL c.kids + N := by rw [c2, Nat.mul_succ]
    have m2 : E * c.dep = E * Cd.depL c.kids + E := by rw [c2, Nat.mul_succ]
    have m3 : N * x.dep ≤ N * Cd.depL c.kids := Nat.mul_le_mul_left _ hxd
    have m4 : E * x.dep ≤ E * Cd.depL c.kids := Nat.mul_le_mul_left _ hxd
    have hb : ¬ s.big c.m c.g := by unfold Sp.big; omega
    rw [if_neg hb]
    have hk := Sp.inn_ok hs hm hd' hb
    have hi : c.inn s.r = c.g := if_pos k5
    rw [hi] at h2
    have g1 := (glueN_len s.l.nodes (s.rest c.m c.g).nodes (mtI s.k.nodes (s.go c.m c.g).nodes (s.rest c.m c.g).nodes.length) (mtI s.k.nodes (s.go c.m c.g).nodes (s.rest c.m c.g).nodes.length).length).1
    have g2 := (glueE_len s.l.edges (s.rest c.m c.g).edges (glueN s.l.nodes (s.rest c.m c.g).nodes (mtI s.k.nodes (s.go c.m c.g).nodes (s.rest c.m c.g).nodes.length) (mtI s.k.nodes (s.go c.m c.g).nodes (s.rest c.m c.g).nodes.length).length).2 (mtI s.k.edges (s.go c.m c.g).edges (s.rest c.m c.g).edges.length) (mtI s.k.edges (s.go c.m c.g).edges (s.rest c.m c.g).edges.length).length).1
    have y1 : (s.inn c.m c.g).l.nodes.length ≤ s.l.nodes.length + (s.rest c.m c.g).nodes.length := Nat.le_trans g1 (Nat.le_of_eq (by rw [mtI_len]))
    have y2 : (s.inn c.m c.g).l.edges.length ≤ s.l.edges.length + (s.rest c.m c.g).edges.length := Nat.le_trans g2 (Nat.le_of_eq (by rw [mtI_len]))
    have hx := ih x (by rw [hkx]; simp) (s.inn c.m c.g) hk (h2 x (by rw [hkx]; simp)) (by omega) (by omega)
    have he : kidsE (fun x => Cd.lft x (s.inn c.m c.g)) c.kids = ([(x.lft (s.inn c.m c.g)).1], 0) := by
     rw [hkx]
     exact kidsE_of fun y hy => by rw [List.mem_singleton.1 hy]; exact hx
    rw [if_neg (by simp [he])]
  ·rw [if_pos k5]
   rw [if_neg k5] at c2
   have hi : c.inn s.r = s.r := if_neg k5
   rw [hi] at h2
   have he := kidsE_of (f := fun x => Cd.lft x s) (l := c.kids) fun x hx => by
    have hxd := depL_le hx
    have m3 : N * x.dep ≤ N * c.dep := Nat.mul_le_mul_left _ (by omega)
    have m4 : E * x.dep ≤ E * c.dep := Nat.mul_le_mul_left _ (by omega)
    exact ih x hx s hs (h2 x hx) (by omega) (by omega)
   rw [if_neg (by simp [he])]
theorem cdOf_gb {N E : Nat} {k : Int} {l : List Cd} (hk : k ≠ 5) (h : ∀ x ∈ l, GB N E x) : GB N E (cdOf k l) := .mk (fun h5 => absurd h5 hk) h
theorem mkC_gb {N E : Nat} (cs : List Int) : ∀ (r : Nat) (a : Gr) (d at1 : Nat) (left : Int), a.nodes.length + d ≤ N → a.edges.length + d ≤ E → GB N E (mkC cs r a d at1 left).1
 | 0, a, d, at1, left, _, _ => cdOf_gb (by decide) (by simp)
 | r + 1, a, d, at1, left, h1, h2 => by
  have ht : GB N E trueC := cdOf_gb (by decide) (by simp)
  simp only [mkC]
  split
  ·exact ht
  ·split
   ·have ih := mkC_gb cs r a d (at1 + 1) (left - 1) h1 h2
    exact cdOf_gb (by decide) (by simpa using ih)
   ·split
    ·rename_i h23
     have i1 := mkC_gb cs r a d (at1 + 1) (left - 1) h1 h2
     generalize mkC cs r a d (at1 + 1) (left - 1) = K at *
     have i2 := mkC_gb cs r a d K.2.1 K.2.2 h1 h2
     exact cdOf_gb (by omega) (by simp; exact ⟨i1, i2⟩)
    ·split
     ·split
      ·exact ht
      ·rename_i hd
       have hl := mkG_len a (codeAt cs at1)
       have ih := mkC_gb (N := N) (E := E) cs r (mkG a (codeAt cs at1)) (d - 1) (at1 + 1) (left - 1) (by omega) (by omega)
       refine .mk (fun _ => ?_) fun x hx => ?_
       ·show (mkG a (codeAt cs at1)).nodes.length ≤ N ∧ (mkG a (codeAt cs at1)).edges.length ≤ E
        omega
       ·have : x = (mkC cs r (mkG a (codeAt cs at1)) (d - 1) (at1 + 1) (left - 1)).1 := by simpa [mkEx, Cd.kids] using hx
        rw [this]; exact ih
     ·exact ht
theorem madeR_gb {a : Gr} (cs : List Int) : GB (a.nodes.length + 2) (a.edges.length + 2) (madeR a cs) := by
 unfold madeR
 simp only
 split
 ·exact cdOf_gb (by decide) (by simp)
 ·exact mkC_gb cs 6 a 2 0 8 (Nat.le_refl _) (Nat.le_refl _)
theorem step_law {s : Sp} {g h : Gr} {m k : Mo} {c : Cd} {FN FE : Nat → Nat → Prop} (hs : SpOk s) (t : Stp s.l s.r g h m k s.KN s.KE FN FE) (hc : MkOk s.r 2 8 c) (hb : GB (s.r.nodes.length + 2) (s.r.edges.length + 2) c)
  (b1 : s.l.nodes.length + (s.r.nodes.length + 2) * 2 ≤ 40) (b2 : s.l.edges.length + (s.r.edges.length + 2) * 2 ≤ 80) :
  (movR s c).2 = 0 ∧ (movR s c).1.Fit ∧ satR s.l (movR s c).1 g m = (c.hol h k, 0) ∧ satR s.r c h k = (c.hol h k, 0) := by
 have v2 := t.en.vm.va
 have v1 := t.em.vm.va
 have hvc := hc.valid v2 (by decide) (by decide)
 have hd := hc.dep
 have m1 : (s.r.nodes.length + 2) * c.dep ≤ (s.r.nodes.length + 2) * 2 := Nat.mul_le_mul_left _ hd
 have m2 : (s.r.edges.length + 2) * c.dep ≤ (s.r.edges.length + 2) * 2 := Nat.mul_le_mul_left _ hd
 have h0 := lft_none _ c (Nat.lt_succ_self _) hb s hs hc.ovr (by omega) (by omega)
 have hok := lft_ok _ c (Nat.lt_succ_self _) hc.fit s hs hc.ovr h0
 have hcd := lft_cd _ c (Nat.lt_succ_self _) s hc.ovr h0
 have hh := lft_hol _ c (Nat.lt_succ_self _) s hs hc.ovr h0 g h m k FN FE t
 have hcn := hc.cnt
 have hv : validC s.l (c.lft s).1 = 0 := (MkOk.mk hok.ovr hok.fit (Nat.le_trans hcd.2 hd) (Nat.le_trans hcd.1 hcn) hok.bare : MkOk s.l 2 8 _).valid v1 (by decide) (by decide)
 have e : movR s c = ((c.lft s).1, 0) := by
  unfold movR
  rw [if_neg (by simp [hvc]), if_neg (by simp [h0]), if_neg (by simp [hv])]
 rw [e]
 exact ⟨rfl, hok.fit, by rw [sat_emb t.em hv, hh], sat_emb t.en hvc⟩
end Go.AM
namespace Go.AM
open Go Go.Proofs
theorem made33_c (a : Gr) (cs : List Int) (hc : U8s cs) (hl : cs.length ≤ 1000) (hv : validG a = 0) (h1 : a.nodes.length ≤ 10) (h2 : a.edges.length ≤ 10) (tok : Tks) (nt : Nat) :
  DCall Tryz.prog 27 [a.av, .d (bytes cs)] tok nt (madeR a cs).av tok nt := by
 intro box nb
 have hm := make61_c cs hc hl 7 6 (by decide) a 2 0 8 (by omega) (by omega) (by decide) (by decide) (by decide) (by decide)
 have hok := (mkC_ok cs hc 6 a 2 0 8 hv (by omega) (by omega)).fit.big
 have hR : madeR a cs = if 8 < (mkC cs 6 a 2 0 8).1.meas.1 then trueC else (mkC cs 6 a 2 0 8).1 := rfl
 generalize mkC cs 6 a 2 0 8 = K at *
 have hs := size25_c _ K.1 (Nat.lt_succ_self _) hok
 refine sB Tryz.func27 Tryz.ntmps27 ?_
 intro hbox htok
 simp only at hbox htok
 apply AL.start
 try (simp)
 repeat (refine sR ?_; simp)
 refine Stop.of_a (hm _ _ (nb + 11) _ _ (by simp [lb_at])) ?_
 rintro v m' ⟨rfl, rfl⟩
 simp
 try (simp)
 repeat (refine sR ?_; simp)
 refine Stop.of_d (hs _ _) ?_
 simp
 try (simp)
 repeat (refine sR ?_; simp)
 by_cases h8 : 8 < K.1.meas.1
 ·rw [if_pos h8] at hR
  try (simp [h8])
  repeat (refine sR ?_; simp [h8])
  refine sC ?_
  simp
  try (simp)
  repeat (refine sR ?_; simp)
  refine Stop.of_d (true33_c _ _) ?_
  simp
  try (simp)
  repeat (refine sR ?_; simp)
  refine sT ?_
  try simp only [AU]
  refine ⟨by simp, sF hbox htok (fun _ h => h) (Nat.le_refl _) ?_⟩
  simp [packA, hR]
 ·rw [if_neg h8] at hR
  try (simp [h8])
  repeat (refine sR ?_; simp [h8])
  refine sC ?_
  simp
  try (simp)
  repeat (refine sR ?_; simp)
  refine sT ?_
  try simp only [AU]
  refine ⟨by simp, sF hbox htok (fun _ h => h) (Nat.le_refl _) ?_⟩
  simp [packA, hR]
structure Ch where
 a : Dr
 b : List Int
 g : List Int
 c : List Int
structure Ch.U8 (x : Ch) : Prop where
 a : x.a.U8
 b : U8s x.b
 g : U8s x.g
 c : U8s x.c
abbrev Ch.av (x : Ch) : AV := .agg [.d (.sl 1 (x.a.nodes.map fun n => [u8 n])), .d (.sl 3 (x.a.edges.map fun e => [u8 e.1, u8 e.2.1, u8 e.2.2])), .d (bytes x.b), .d (bytes x.g), .d (bytes x.c)]
def Ch.ok (x : Ch) : Bool := decide (x.a.nodes.length ≤ 1 ∧ x.a.edges.length ≤ 1 ∧ x.c.length ≤ 12 ∧ x.b.length ≤ 10 ∧ x.g.length ≤ 10)
end Go.AM
namespace Go.AM
open Go Go.Proofs
def Sp.ru (s : Sp) : Ru := ⟨⟨#[]⟩, s.l, [], 0, [], s.r, [], 0, [], s.k, s.i, true, cdOf 0 []⟩
theorem of34_c (l r : Gr) (k i : Mo) (tok : Tks) (nt : Nat) : DCall Tryz.prog 139 [l.av, r.av, k.av, i.av] tok nt (Sp.ru ⟨l, r, k, i⟩).av tok nt := by
 intro box nb
 refine sB Tryz.func139 Tryz.ntmps139 ?_
 intro hbox htok
 simp only at hbox htok
 apply AL.start
 try (simp)
 repeat (refine sR ?_; simp)
 refine sT ?_
 try simp only [AU]
 refine ⟨by simp, sF hbox htok (fun _ h => h) (Nat.le_refl _) ?_⟩
 simp [packA, Sp.ru, cdOf, Cd.kind, Cd.kids, Cd.m, Cd.g, Cd.sl, Cd.vars, Cd.te, conds, ints, AM.edges, slots, tests]
end Go.AM
namespace Go.AM
open Go Go.Proofs
structure Ru.Big (r : Ru) : Prop where
 k : r.k.nodes.length ≤ bigN ∧ r.k.edges.length ≤ bigN
 i : r.i.nodes.length ≤ bigN ∧ r.i.edges.length ≤ bigN
 ls : r.lsl.length ≤ bigN
 lt : r.lte.length ≤ bigN
 rs : r.rsl.length ≤ bigN
 rt : r.rte.length ≤ bigN
 c : r.c.Big
end Go.AM
namespace Go.AM
open Go Go.Proofs
def backL (l : List Int) (n : Nat) : List Int := (List.range n).map fun (k : Nat) => indexI l (k : Int)
theorem backL_len (l : List Int) (n : Nat) : (backL l n).length = n := by simp [backL]
theorem backL_getD {l : List Int} {n k : Nat} (h : k < n) : (backL l n).getD k 0 = indexI l k := by simp [backL, h]
def BackOK : Prop := ∀ (l : List Int) (n : Nat), l.length ≤ 1000000 → n ≤ 1000000 → l.Nodup → ∀ (tok : Tks) (nt : Nat), DCall Tryz.prog 80 [.d (ints l), I n] tok nt (.d (ints (backL l n))) tok nt
theorem byK_back {q l : List Int} {n : Nat} (h : ∀ x ∈ q, 0 ≤ x ∧ x < n) : byK q (backL l n) q.length = q.map (indexI l) := byK_ext (by simp) fun i hi => by
 have := h _ (getD_mem (d := 0) hi)
 rw [backL_getD (by omega), mapI_getD hi, show (((q.getD i 0).toNat : Nat) : Int) = q.getD i 0 by omega]
end Go.AM
namespace Go.AM
open Go Go.Proofs
end Go.AM
namespace Go.AM
open Go Go.Proofs
def gwN (ns cs : List Int) (i : Nat) : List Int := ((cs.take i).drop 1).foldl (fun s c => if c % 2 = 1 then s ++ [c / 2 % 3] else s) ns
def gwE (n : Nat) (es : List E) (cs : List Int) (i : Nat) : List E := ((cs.take i).drop 4).foldl (fun s c => s ++ [⟨c % 2, c / 2 % n, c / 16 % n⟩]) es
theorem drop_snoc {l : List Int} {i k : Nat} (h : i < l.length) (hk : k ≤ i) : (l.take (i + 1)).drop k = (l.take i).drop k ++ [l[i]] := by
 rw [List.take_succ_eq_append_getElem h, List.drop_append_of_le_length (by simp; omega)]
theorem gwN_more {ns cs : List Int} {i : Nat} (h : i < cs.length) (h1 : 1 ≤ i) : gwN ns cs (i + 1) = if cs[i] % 2 = 1 then gwN ns cs i ++ [cs[i] / 2 % 3] else gwN ns cs i := by
 rw [gwN, drop_snoc h h1, List.foldl_append]
 rfl
theorem gwE_more {n : Nat} {es : List E} {cs : List Int} {i : Nat} (h : i < cs.length) (h1 : 4 ≤ i) : gwE n es cs (i + 1) = gwE n es cs i ++ [⟨cs[i] % 2, cs[i] / 2 % n, cs[i] / 16 % n⟩] := by
 rw [gwE, drop_snoc h h1, List.foldl_append]
 rfl
theorem gwN_len {ns cs : List Int} : ∀ i, (gwN ns cs i).length ≤ ns.length + i
 | 0 => by simp [gwN]
 | i + 1 => by
  have ih := @gwN_len ns cs i
  by_cases h : i < cs.length
  ·by_cases h1 : 1 ≤ i
   ·rw [gwN_more h h1]
    split
    ·rw [List.length_append]; simp; omega
    ·omega
   ·have : i = 0 := by omega
    subst this
    rw [gwN, List.drop_eq_nil_of_le (by simp; omega)]
    simp
  ·rw [gwN, List.take_of_length_le (by omega)]
   rw [gwN, List.take_of_length_le (by omega)] at ih
   omega
theorem gwE_len {n : Nat} {es : List E} {cs : List Int} : ∀ i, (gwE n es cs i).length ≤ es.length + i
 | 0 => by simp [gwE]
 | i + 1 => by
  have ih := @gwE_len n es cs i
  by_cases h : i < cs.length
  ·by_cases h1 : 4 ≤ i
   ·rw [gwE_more h h1, List.length_append]; simp; omega
   ·rw [gwE, List.drop_eq_nil_of_le (by simp; omega)]
    simp
  ·rw [gwE, List.take_of_length_le (by omega)]
   rw [gwE, List.take_of_length_le (by omega)] at ih
   omega
def gwG (g : Gr) (cs : List Int) : Gr :=
 ⟨gwN g.nodes cs (min cs.length 4), if (gwN g.nodes cs (min cs.length 4)).length = 0 then g.edges else gwE (gwN g.nodes cs (min cs.length 4)).length g.edges cs (min cs.length 8)⟩
def stG1 (g : Gr) (cs : List Int) (nb : Nat) (box : Bxs) (x : Acc5) : AState :=
 ⟨tl [(8, I x.i), (7, .ptr (nb + 7) 0 0), (6, .ptr (nb + 6) 0 0), (5, .ptr (nb + 5) 0 0), (4, .ptr (nb + 4) 0 0), (1, .d (bytes cs))],
  lb nb box [(6, [[.osl 1 (rI (gwN g.nodes cs x.i)) x.o1, .osl 3 (rE g.edges) x.o2]]), (7, [[.d (ints (iota g.nodes.length)), .d (ints (iota g.edges.length))]]), (5, [[nilS, nilS]]), (4, [[nilS, nilS]])], x.tok, x.nt⟩
def stG2 (g : Gr) (N : List Int) (cs : List Int) (nb : Nat) (box : Bxs) (x : Acc5) : AState :=
 ⟨tl [(9, I x.i), (7, .ptr (nb + 7) 0 0), (6, .ptr (nb + 6) 0 0), (5, .ptr (nb + 5) 0 0), (4, .ptr (nb + 4) 0 0), (1, .d (bytes cs))],
  lb nb box [(6, [[.osl 1 (rI N) x.o1, .osl 3 (rE (gwE N.length g.edges cs x.i)) x.o2]]), (7, [[.d (ints (iota g.nodes.length)), .d (ints (iota g.edges.length))]]), (5, [[nilS, nilS]]), (4, [[nilS, nilS]])], x.tok, x.nt⟩
def stGm (g : Gr) (N : List Int) (cs : List Int) (nb : Nat) (box : Bxs) (x : Acc5) : AState :=
 ⟨tl [(7, .ptr (nb + 7) 0 0), (6, .ptr (nb + 6) 0 0), (5, .ptr (nb + 5) 0 0), (4, .ptr (nb + 4) 0 0), (1, .d (bytes cs))],
  lb nb box [(6, [[.osl 1 (rI N) x.o1, .osl 3 (rE g.edges) x.o2]]), (7, [[.d (ints (iota g.nodes.length)), .d (ints (iota g.edges.length))]]), (5, [[nilS, nilS]]), (4, [[nilS, nilS]])], x.tok, x.nt⟩
theorem grown10_c (g : Gr) (hg : g.Fit) (cs : List Int) (hc : U8s cs) (hl : cs.length ≤ 1000) (h1 : 0 < cs.length) (h0 : cs[0] = 255) (tok : Tks) (nt : Nat) :
  DCall Tryz.prog 138 [g.av, .d (bytes cs)] tok nt (.tup [(gwG g cs).av, (idM g).av]) tok nt := by
 intro box nb
 have hcp := copied_c g hg
 have hof := of_c g hg
 refine sB Tryz.func138 Tryz.ntmps138 ?_
 intro hbox htok
 simp only at hbox htok
 apply AL.start
 try (simp)
 repeat (refine sR ?_; simp)
 refine Stop.of_d (hcp _ _) ?_
 simp
 refine Stop.of_d (hof _ _) ?_
 simp
 try (simp [h1, h0, bytes_at h1])
 repeat (refine sR ?_; simp [h1, h0, bytes_at h1])
 refine sC ?_
 simp
 try (simp)
 repeat (refine sR ?_; simp)
 refine Stop.data ?_
 refine Stop.of_d (hcp _ _) ?_
 simp
 refine sR ?_
 simp
 have e1 : gwN g.nodes cs 1 = g.nodes := by rw [gwN, List.drop_eq_nil_of_le (by simp; omega)]; rfl
 refine AL.midT (stGm g (gwN g.nodes cs (min cs.length 4)) cs nb box) (fun y => TK tok nt y.tok y.nt [y.o1, y.o2]) ?_ ?_
 ·refine sN ?_
  have htk0 := ((TK.start htok).full.app.full.app.tail.tail).full.app.full.app.swap
  refine AL.loopT (stG1 g cs nb box) (fun x => 1 ≤ x.i ∧ x.i ≤ cs.length ∧ x.i ≤ 4 ∧ TK tok nt x.tok x.nt [x.o1, x.o2]) (fun x => cs.length - x.i) ⟨1, .tok (nt + 2), .tok (nt + 2 + 1), _, _⟩ ⟨by simp, by simp only; omega, by simp, htk0⟩ (Weaks.mk htk0.le rfl (by simp [ToL, lk]) (by simp [BoxL, lk, e1])) ?_
  clear htk0
  rintro ⟨i, o1, o2, tok1, nt1⟩ S ⟨hi1, hi, hi4, htk⟩ hS
  simp only [stG1] at hS hi1 hi hi4 htk
  subst hS
  have hw := sW (i := i) (by omega)
  have hlen := @gwN_len g.nodes cs i
  have hgn := hg.n
  have hge := hg.e
  by_cases hlt : i < cs.length ∧ i ≤ 3
  ·obtain ⟨hlt, h3⟩ := hlt
   have h3' : (i : Int) ≤ 3 := by omega
   obtain ⟨c0, c1⟩ := hc _ (List.getElem_mem hlt)
   have hmore := gwN_more (ns := g.nodes) hlt hi1
   have hb := bytes_at hlt
   generalize hK2 : gwN g.nodes cs (i + 1) = K2 at *
   generalize gwN g.nodes cs i = K at *
   have C := codeA c0 c1
   by_cases odd : cs[i] % 2 = 1
   ·rw [if_pos odd] at hmore
    try (simp [hlt, h3'])
    repeat (refine sR ?_; simp [hlt, h3'])
    refine sC ?_
    simp
    try (simp [hb, hlt, C.m2, odd])
    repeat (refine sR ?_; simp [hb, hlt, C.m2, odd])
    refine sC ?_
    simp [C.m2, odd]
    try (simp [hb, hlt, C.d2, C.w2, C.t3])
    repeat (refine sR ?_; simp [hb, hlt, C.d2, C.w2, C.t3])
    refine ⟨⟨by omega, htk.live⟩, ?_⟩
    try (simp [hw])
    repeat (refine sR ?_; simp [hw])
    refine sE ?_
    refine ⟨⟨i + 1, .tok nt1, o2, upd (o1.kill tok1) nt1 true, nt1 + 1⟩, ⟨by simp only; omega, hlt, by simp only; omega, htk.app⟩, by simp only; omega, ?_⟩
    simp only [stG1, hK2, hmore]
    exact Weaks.mk htk.app.le rfl (by simp [ToL, lk]) (by simp [BoxL, lk, rI])
   ·rw [if_neg odd] at hmore
    try (simp [hlt, h3'])
    repeat (refine sR ?_; simp [hlt, h3'])
    refine sC ?_
    simp
    try (simp [hb, hlt, C.m2, odd])
    repeat (refine sR ?_; simp [hb, hlt, C.m2, odd])
    refine sC ?_
    simp [C.m2, odd]
    try (simp [hw])
    repeat (refine sR ?_; simp [hw])
    refine sE ?_
    refine ⟨⟨i + 1, o1, o2, tok1, nt1⟩, ⟨by simp only; omega, hlt, by simp only; omega, htk⟩, by simp only; omega, ?_⟩
    simp only [stG1, hK2, hmore]
    exact Weaks.mk htk.le rfl (by simp [ToL, lk]) (by simp [BoxL, lk])
  ·have hx : min cs.length 4 = i := by omega
   by_cases hl2 : i < cs.length
   ·have h3' : ¬ (i : Int) ≤ 3 := by omega
    try (simp [hl2, h3'])
    repeat (refine sR ?_; simp [hl2, h3'])
    refine sC ?_
    simp
    refine sX ?_
    simp only [AU, ↓reduceIte]
    refine sE ?_
    refine ⟨⟨0, o1, o2, tok1, nt1⟩, htk, ?_⟩
    simp only [stGm, hx]
    exact Weaks.mk htk.le rfl (by simp [ToL, lk]) (by simp [BoxL, lk])
   ·try (simp [hl2])
    repeat (refine sR ?_; simp [hl2])
    refine sC ?_
    simp
    refine sX ?_
    simp only [AU, ↓reduceIte]
    refine sE ?_
    refine ⟨⟨0, o1, o2, tok1, nt1⟩, htk, ?_⟩
    simp only [stGm, hx]
    exact Weaks.mk htk.le rfl (by simp [ToL, lk]) (by simp [BoxL, lk])
 ·rintro ⟨i0, o1, o2, tok1, nt1⟩ htk
  simp only at htk
  clear e1
  obtain ⟨N, hN⟩ : ∃ N, gwN g.nodes cs (min cs.length 4) = N := ⟨_, rfl⟩
  have hNl := @gwN_len g.nodes cs (min cs.length 4)
  have hG : gwG g cs = ⟨N, if N.length = 0 then g.edges else gwE N.length g.edges cs (min cs.length 8)⟩ := by rw [gwG, hN]
  have hgn := hg.n
  have hge := hg.e
  rw [hN] at hNl ⊢
  simp only [stGm]
  try (simp)
  repeat (refine sR ?_; simp)
  refine sN ?_
  have e1 : gwE N.length g.edges cs 4 = g.edges := by rw [gwE, List.drop_eq_nil_of_le (by simp; omega)]; rfl
  refine AL.loopT (stG2 g N cs nb box) (fun x => 4 ≤ x.i ∧ (x.i = 4 ∨ x.i ≤ cs.length) ∧ x.i ≤ 8 ∧ (N.length = 0 → x.i = 4) ∧ TK tok nt x.tok x.nt [x.o1, x.o2]) (fun x => 8 - x.i) ⟨4, o1, o2, tok1, nt1⟩ ⟨by simp, .inl rfl, by simp, fun _ => rfl, htk⟩ (Weaks.mk htk.le rfl (by simp [ToL, lk]) (by simp [BoxL, lk, e1])) ?_
  clear htk e1
  rintro ⟨i, o1, o2, tok1, nt1⟩ S ⟨hi1, hi, hi4, hz, htk⟩ hS
  simp only [stG2] at hS hi1 hi hi4 hz htk
  subst hS
  have hw := sW (i := i) (by omega)
  have hlen := @gwE_len N.length g.edges cs i
  by_cases hc3 : i < cs.length ∧ i ≤ 7 ∧ 0 < N.length
  ·obtain ⟨hlt, h7, hn0⟩ := hc3
   have h7' : (i : Int) ≤ 7 := by omega
   have hn0' : (0 : Int) < N.length := by omega
   have hnz : ¬ (N.length : Int) = 0 := by omega
   have hnz2 : ¬ N = [] := fun h => by rw [h] at hn0; simp at hn0
   obtain ⟨c0, c1⟩ := hc _ (List.getElem_mem hlt)
   have hmore := gwE_more (n := N.length) (es := g.edges) hlt hi1
   have hb := bytes_at hlt
   generalize hK2 : gwE N.length g.edges cs (i + 1) = K2 at *
   generalize gwE N.length g.edges cs i = K at *
   have C := codeA c0 c1
   have n2 : (cs[i] / 2).tmod (N.length : Int) = cs[i] / 2 % N.length := Int.tmod_eq_emod_of_nonneg (by omega)
   have w0 : IntKind.i64.wrap cs[i] = cs[i] := wrap_in (by omega) (by omega)
   try (simp [hlt, h7', hn0', hn0, hnz2])
   repeat (refine sR ?_; simp [hlt, h7', hn0', hn0, hnz2])
   refine sC ?_
   simp [hlt, h7', hn0', hn0, hnz2]
   try (simp [hb, hlt, C.m2, C.d2, C.d16, C.w2, C.w16, w0, n2, C.n16, hnz, hnz2])
   repeat (refine sR ?_; simp [hb, hlt, C.m2, C.d2, C.d16, C.w2, C.w16, w0, n2, C.n16, hnz, hnz2])
   refine ⟨⟨by omega, htk.swap.live⟩, ?_⟩
   try (simp [hw])
   repeat (refine sR ?_; simp [hw])
   refine sE ?_
   refine ⟨⟨i + 1, o1, .tok nt1, upd (o2.kill tok1) nt1 true, nt1 + 1⟩, ⟨by simp only; omega, .inr hlt, by simp only; omega, htk.swap.app.swap⟩, by simp only; omega, ?_⟩
   simp only [stG2, hK2, hmore]
   exact Weaks.mk htk.swap.app.le rfl (by simp [ToL, lk]) (by simp [BoxL, lk, rE])
  ·have hfin : (if N.length = 0 then g.edges else gwE N.length g.edges cs (min cs.length 8)) = gwE N.length g.edges cs i := by
    have e4 : ∀ k, k ≤ 4 → gwE N.length g.edges cs k = g.edges := fun k hk => by rw [gwE, List.drop_eq_nil_of_le (by simp; omega)]; rfl
    by_cases hn : N.length = 0
    ·rw [if_pos hn, hz hn, e4 4 (Nat.le_refl _)]
    ·rw [if_neg hn]
     by_cases hl4 : cs.length ≤ 4
     ·rw [e4 _ (by omega), e4 i (by omega)]
     ·rw [show min cs.length 8 = i by omega]
   rw [hfin] at hG
   clear hfin
   generalize gwE N.length g.edges cs i = K at *
   by_cases hlt : i < cs.length
   ·by_cases h7 : i ≤ 7
    ·have h7' : (i : Int) ≤ 7 := by omega
     have hN0 : N = [] := List.length_eq_zero_iff.1 (by omega)
     try (simp [hlt, h7', hN0])
     repeat (refine sR ?_; simp [hlt, h7', hN0])
     refine sC ?_
     simp [hlt, h7', hN0]
     refine sX ?_
     simp only [AU, ↓reduceIte]
     refine sN ?_
     refine AL.region2 follows_Tryz (Nat.le_refl _) (by kernel_rfl) (Side.of (by simp)) ?_
     simp
     refine sT ?_
     try simp only [AU]
     refine ⟨by simp, sF hbox htok htk.old htk.le ?_⟩
     simp [packA, hG, hN0, idM, ints]
    ·have h7' : ¬ (i : Int) ≤ 7 := by omega
     try (simp [hlt, h7'])
     repeat (refine sR ?_; simp [hlt, h7'])
     refine sC ?_
     simp [hlt, h7']
     refine sX ?_
     simp only [AU, ↓reduceIte]
     refine sN ?_
     refine AL.region2 follows_Tryz (Nat.le_refl _) (by kernel_rfl) (Side.of (by simp)) ?_
     simp
     refine sT ?_
     try simp only [AU]
     refine ⟨by simp, sF hbox htok htk.old htk.le ?_⟩
     simp [packA, hG, idM]
   ·try (simp [hlt])
    repeat (refine sR ?_; simp [hlt])
    refine sC ?_
    simp [hlt]
    refine sX ?_
    simp only [AU, ↓reduceIte]
    refine sN ?_
    refine AL.region2 follows_Tryz (Nat.le_refl _) (by kernel_rfl) (Side.of (by simp)) ?_
    simp
    refine sT ?_
    try simp only [AU]
    refine ⟨by simp, sF hbox htok htk.old htk.le ?_⟩
    simp [packA, hG, idM]
end Go.AM
namespace Go.AM
open Go Go.Proofs
abbrev Ub (n : Int) : AV := .d (.raw (.int .u8 n))
abbrev Sb (s : ByteArray) : AV := .d (.raw (.string s))
def letB (c : Int) : Bool := decide (97 ≤ c ∧ c ≤ 122 ∨ 65 ≤ c ∧ c ≤ 90)
def digB (c : Int) : Bool := decide (48 ≤ c ∧ c ≤ 57)
def parB (c : Int) : Bool := letB c || digB c || c == 95
def byteAt (s : ByteArray) (i : Nat) : Int := (s.data.toList.getD i 0).toNat
theorem letter_c (c : Int) (tok : Tks) (nt : Nat) : DCall Tryz.prog 280 [Ub c] tok nt (B (letB c)) tok nt := by
 intro box nb
 by_cases h1 : 97 ≤ c
 ·by_cases h2 : c ≤ 122
  ·refine sB Tryz.func280 Tryz.ntmps280 ?_
   intro hbox htok
   simp only at hbox htok
   apply AL.start
   try (simp [h1, h2])
   repeat (refine sR ?_; simp [h1, h2])
   refine sT ?_
   try simp only [AU]
   refine ⟨by simp, sF hbox htok (fun _ h => h) (Nat.le_refl _) ?_⟩
   simp [packA, letB, h1, h2]
  ·have h3 : ¬ c ≤ 90 := by omega
   have h4 : 65 ≤ c := by omega
   refine sB Tryz.func280 Tryz.ntmps280 ?_
   intro hbox htok
   simp only at hbox htok
   apply AL.start
   try (simp [h1, h2, h3, h4])
   repeat (refine sR ?_; simp [h1, h2, h3, h4])
   refine sT ?_
   try simp only [AU]
   refine ⟨by simp, sF hbox htok (fun _ h => h) (Nat.le_refl _) ?_⟩
   simp [packA, letB, h1, h2, h3, h4]
 ·by_cases h3 : 65 ≤ c
  ·by_cases h4 : c ≤ 90
   ·refine sB Tryz.func280 Tryz.ntmps280 ?_
    intro hbox htok
    simp only at hbox htok
    apply AL.start
    try (simp [h1, h3, h4])
    repeat (refine sR ?_; simp [h1, h3, h4])
    refine sT ?_
    try simp only [AU]
    refine ⟨by simp, sF hbox htok (fun _ h => h) (Nat.le_refl _) ?_⟩
    simp [packA, letB, h1, h3, h4]
   ·refine sB Tryz.func280 Tryz.ntmps280 ?_
    intro hbox htok
    simp only at hbox htok
    apply AL.start
    try (simp [h1, h3, h4])
    repeat (refine sR ?_; simp [h1, h3, h4])
    refine sT ?_
    try simp only [AU]
    refine ⟨by simp, sF hbox htok (fun _ h => h) (Nat.le_refl _) ?_⟩
    simp [packA, letB, h1, h3, h4]
  ·refine sB Tryz.func280 Tryz.ntmps280 ?_
   intro hbox htok
   simp only at hbox htok
   apply AL.start
   try (simp [h1, h3])
   repeat (refine sR ?_; simp [h1, h3])
   refine sT ?_
   try simp only [AU]
   refine ⟨by simp, sF hbox htok (fun _ h => h) (Nat.le_refl _) ?_⟩
   simp [packA, letB, h1, h3]
theorem digit_c (c : Int) (tok : Tks) (nt : Nat) : DCall Tryz.prog 283 [Ub c] tok nt (B (digB c)) tok nt := by
 intro box nb
 by_cases h1 : 48 ≤ c
 ·by_cases h2 : c ≤ 57
  ·refine sB Tryz.func283 Tryz.ntmps283 ?_
   intro hbox htok
   simp only at hbox htok
   apply AL.start
   try (simp [h1, h2])
   repeat (refine sR ?_; simp [h1, h2])
   refine sT ?_
   try simp only [AU]
   refine ⟨by simp, sF hbox htok (fun _ h => h) (Nat.le_refl _) ?_⟩
   simp [packA, digB, h1, h2]
  ·refine sB Tryz.func283 Tryz.ntmps283 ?_
   intro hbox htok
   simp only at hbox htok
   apply AL.start
   try (simp [h1, h2])
   repeat (refine sR ?_; simp [h1, h2])
   refine sT ?_
   try simp only [AU]
   refine ⟨by simp, sF hbox htok (fun _ h => h) (Nat.le_refl _) ?_⟩
   simp [packA, digB, h1, h2]
 ·refine sB Tryz.func283 Tryz.ntmps283 ?_
  intro hbox htok
  simp only at hbox htok
  apply AL.start
  try (simp [h1])
  repeat (refine sR ?_; simp [h1])
  refine sT ?_
  try simp only [AU]
  refine ⟨by simp, sF hbox htok (fun _ h => h) (Nat.le_refl _) ?_⟩
  simp [packA, digB, h1]
theorem part_c1 (c : Int) (tok : Tks) (nt : Nat) : DCall Tryz.prog 282 [Ub c] tok nt (B (parB c)) tok nt := by
 intro box nb
 have h1 := letter_c c
 have h2 := digit_c c
 cases e1 : letB c
 ·cases e2 : digB c
  ·rw [e1] at h1
   rw [e2] at h2
   refine sB Tryz.func282 Tryz.ntmps282 ?_
   intro hbox htok
   simp only at hbox htok
   apply AL.start
   try (simp)
   repeat (refine sR ?_; simp)
   refine Stop.of_d (h1 _ _) ?_
   simp
   try (simp)
   repeat (refine sR ?_; simp)
   refine Stop.of_d (h2 _ _) ?_
   simp
   try (simp)
   repeat (refine sR ?_; simp)
   refine sT ?_
   try simp only [AU]
   refine ⟨by simp, sF hbox htok (fun _ h => h) (Nat.le_refl _) ?_⟩
   simp [packA, parB, e1, e2]
  ·rw [e1] at h1
   rw [e2] at h2
   refine sB Tryz.func282 Tryz.ntmps282 ?_
   intro hbox htok
   simp only at hbox htok
   apply AL.start
   try (simp)
   repeat (refine sR ?_; simp)
   refine Stop.of_d (h1 _ _) ?_
   simp
   try (simp)
   repeat (refine sR ?_; simp)
   refine Stop.of_d (h2 _ _) ?_
   simp
   try (simp)
   repeat (refine sR ?_; simp)
   refine sT ?_
   try simp only [AU]
   refine ⟨by simp, sF hbox htok (fun _ h => h) (Nat.le_refl _) ?_⟩
   simp [packA, parB, e1, e2]
 ·rw [e1] at h1
  refine sB Tryz.func282 Tryz.ntmps282 ?_
  intro hbox htok
  simp only at hbox htok
  apply AL.start
  try (simp)
  repeat (refine sR ?_; simp)
  refine Stop.of_d (h1 _ _) ?_
  simp
  try (simp)
  repeat (refine sR ?_; simp)
  refine sT ?_
  try simp only [AU]
  refine ⟨by simp, sF hbox htok (fun _ h => h) (Nat.le_refl _) ?_⟩
  simp [packA, parB, e1]
def runN (p : Int → Bool) (s : ByteArray) (at' : Nat) : Nat := ((s.data.toList.drop at').takeWhile fun b => p (b.toNat : Int)).length
theorem takeW_len {α : Type} (q : α → Bool) (d : α) : ∀ (l : List α) (i : Nat), i ≤ l.length → (∀ j, j < i → q (l.getD j d) = true) → (i = l.length ∨ q (l.getD i d) = false) → (l.takeWhile q).length = i
 | [], i, hi, _, _ => by simp at hi; subst hi; rfl
 | x :: l, 0, _, _, h => by
  have h2 : q x = false := by simpa using h
  simp [List.takeWhile_cons, h2]
 | x :: l, i + 1, hi, h1, h2 => by
  have hx : q x = true := by simpa using h1 0 (by omega)
  have ih := takeW_len q d l i (by simpa using hi) (fun j hj => by simpa using h1 (j + 1) (by omega)) (by simpa using h2)
  simp [List.takeWhile_cons, hx, ih]
theorem size_toList (s : ByteArray) : s.data.toList.length = s.size := by rw [Array.length_toList]; rfl
theorem byteAt_lt {s : ByteArray} {i : Nat} (h : i < s.size) : (s.data[i].toNat : Int) = byteAt s i := by
 have h2 : i < s.data.toList.length := by rw [size_toList]; exact h
 rw [byteAt, List.getD_eq_getElem?_getD, List.getElem?_eq_getElem h2, Option.getD_some, Array.getElem_toList]
theorem runN_eq {p : Int → Bool} {s : ByteArray} {a i : Nat} (hi : a + i ≤ s.size) (h1 : ∀ j, j < i → p (byteAt s (a + j)) = true) (h2 : a + i = s.size ∨ p (byteAt s (a + i)) = false) : runN p s a = i := by
 have hl := size_toList s
 have g : ∀ j, (s.data.toList.drop a).getD j 0 = s.data.toList.getD (a + j) 0 := fun j => by simp [List.getD_eq_getElem?_getD, List.getElem?_drop]
 refine takeW_len _ 0 _ i (by rw [List.length_drop]; omega) (fun j hj => ?_) ?_
 ·rw [g]; exact h1 j hj
 ·rcases h2 with h2 | h2
  ·left; rw [List.length_drop]; omega
  ·right; rw [g]; exact h2
def stRu (s : ByteArray) (f : FuncId) (nb : Nat) (box : Bxs) (tok : Tks) (nt : Nat) (i : Nat) : AState := ⟨tl [(0, Sb s), (1, .fn (.func f) []), (5, I i)], lb nb box [], tok, nt⟩
theorem run_c (s : ByteArray) (f : FuncId) (p : Int → Bool) (hs : s.size ≤ 200000000000000) (tok : Tks) (nt : Nat) (hf : ∀ c, DCall Tryz.prog f [Ub c] tok nt (B (p c)) tok nt) : DCall Tryz.prog 281 [Sb s, .fn (.func f) []] tok nt (I (runN p s 0)) tok nt := by
 intro box nb
 refine sB Tryz.func281 Tryz.ntmps281 ?_
 intro hbox htok
 simp only at hbox htok
 apply AL.start
 try (simp)
 repeat (refine sR ?_; simp)
 refine sN ?_
 have hc : ∀ c ∈ ([] : List AV), OkIn (fun k => box k ≠ none) (fun _ => True) c := by simp
 refine AL.loopT (stRu s f nb box tok nt) (fun i => i ≤ s.size ∧ ∀ j, j < i → p (byteAt s j) = true) (fun i => s.size - i) 0 ⟨Nat.zero_le _, by omega⟩ (Weaks.mk (Nat.le_refl _) rfl (by simp [ToL, lk]; exact .same (okFn hc hbox [] (by simp) rfl _)) trivial) ?_
 rintro i S' ⟨hi, hok⟩ hS
 simp only [stRu] at hS
 subst hS
 have hw := sW (i := i) (by omega)
 by_cases hlt : i < s.size
 ·have hbb := byteAt_lt hlt
  have hr := runN_eq (p := p) (s := s) (a := 0) (i := i) (by omega) (fun j hj => by rw [Nat.zero_add]; exact hok j hj)
  rw [Nat.zero_add, ← hbb] at hr
  have hok2 : p (s.data[i].toNat) = true → ∀ j, j < i + 1 → p (byteAt s j) = true := fun h j hj => by
   by_cases e : j = i
   ·rw [e, ← hbb]; exact h
   ·exact hok j (by omega)
  try (simp [hlt])
  repeat (refine sR ?_; simp [hlt])
  refine Stop.of_d (hf _) ?_
  simp
  try (simp)
  repeat (refine sR ?_; simp)
  generalize (s.data[i].toNat : Int) = c at *
  cases e : p c
  ·have hr := hr (.inr e)
   refine sC ?_
   simp
   refine sX ?_
   simp only [AU, ↓reduceIte]
   try (simp)
   repeat (refine sR ?_; simp)
   refine sT ?_
   try simp only [AU]
   refine ⟨by simp, sF hbox htok (fun _ h => h) (Nat.le_refl _) ?_⟩
   simp [packA, hr]
  ·refine sC ?_
   simp
   try (simp [hw])
   repeat (refine sR ?_; simp [hw])
   refine sE ?_
   exact ⟨i + 1, ⟨hlt, hok2 e⟩, by omega, Weaks.mk (Nat.le_refl _) rfl (by simp [ToL, lk]; exact .same (okFn hc hbox [] (by simp) rfl _)) trivial⟩
 ·have hie : i = s.size := by omega
  have hr := runN_eq (p := p) (s := s) (a := 0) (i := i) (by omega) (fun j hj => by rw [Nat.zero_add]; exact hok j hj) (.inl (by omega))
  try (simp [hlt])
  repeat (refine sR ?_; simp [hlt])
  refine sC ?_
  simp
  refine sX ?_
  simp only [AU, ↓reduceIte]
  try (simp)
  repeat (refine sR ?_; simp)
  refine sT ?_
  try simp only [AU]
  refine ⟨by simp, sF hbox htok (fun _ h => h) (Nat.le_refl _) ?_⟩
  simp [packA, hr]
end Go.AM
namespace Go.Proofs
open Go.Shelf
def Tryz.lays137_ren : Go.Shelf.Ren := ⟨fun | 137 => 286 | 217 => 293 | 266 => 294 | n => n, fun | 9 => 9 | 5 => 5 | 3 => 3 | n => n, fun | n => n⟩
theorem Tryz.lays137 : Go.Proofs.Lays.n137 Tryz.prog Tryz.lays137_ren := {
 mixed := by kernel_rfl
 f137 := Tryz.func286.trans (congrArg some (by kernel_rfl))
 f217 := Tryz.func293.trans (congrArg some (by kernel_rfl))
 f266 := Tryz.func294.trans (congrArg some (by kernel_rfl))
 t3 := Tryz.underlying3
 a3 := Tryz.isAgg3
 z3 := Tryz.sizeOf3
 v3 := Tryz.zeroValue3
 t5 := Tryz.underlying5
 a5 := Tryz.isAgg5
 z5 := Tryz.sizeOf5
 v5 := Tryz.zeroValue5
 t9 := Tryz.underlying9
 a9 := Tryz.isAgg9
 z9 := Tryz.sizeOf9
 v9 := Tryz.zeroValue9 }
open Go.RowKit in
theorem Tryz.strings_IndexByte (s : ByteArray) (c : Int) (w : World) :
  Calls Tryz.prog 286 #[.string s, .int .u8 c] w fun e w' => e = .returned (.int .i64 (Lib.indexByte s.data.toList c.toNat.toUInt8)) ∧ w' = w := Any.strings_IndexByte Tryz.lays137 s c w
def Tryz.lays112_ren : Go.Shelf.Ren := ⟨fun | 112 => 256 | n => n, fun | 28 => 22 | 3 => 3 | 4 => 4 | 0 => 0 | n => n, fun | n => n⟩
theorem Tryz.lays112 : Go.Proofs.Lays.n112 Tryz.prog Tryz.lays112_ren := {
 mixed := by kernel_rfl
 f112 := Tryz.func256.trans (congrArg some (by kernel_rfl))
 t0 := Tryz.underlying0
 a0 := Tryz.isAgg0
 z0 := Tryz.sizeOf0
 v0 := Tryz.zeroValue0
 t3 := Tryz.underlying3
 a3 := Tryz.isAgg3
 z3 := Tryz.sizeOf3
 v3 := Tryz.zeroValue3
 t4 := Tryz.underlying4
 a4 := Tryz.isAgg4
 z4 := Tryz.sizeOf4
 v4 := Tryz.zeroValue4
 t28 := Tryz.underlying22
 a28 := Tryz.isAgg22
 z28 := Tryz.sizeOf22
 v28 := Tryz.zeroValue22 }
open Go.RowKit Go.Lib Go.Sort in
theorem Tryz.slices_Reverse_int (blk off cap : Nat) (zs : List Int) (w : World) (hH : Holds (Value.int .i64) w blk off zs.toArray) (hsz : zs.length ≤ 9223372036854775807) :
  Calls Tryz.prog 256 #[.slice (some ⟨blk, off, none⟩) zs.length cap] w fun e w' => e = .returned (.tuple #[]) ∧ ∃ n, w' = putRow (Value.int .i64) (Sort.ahead w n) blk off zs.reverse.toArray := Any.slices_Reverse_int Tryz.lays112 blk off cap zs w hH hsz
open Go.RowKit Go.Lib Go.Sort in
theorem Tryz.slices_Reverse_int_empty (a : Option Addr) (cap : Nat) (w : World) :
  Calls Tryz.prog 256 #[.slice a 0 cap] w fun e w' => e = .returned (.tuple #[]) ∧ w' = w := Any.slices_Reverse_int_empty Tryz.lays112 a cap w
end Go.Proofs
namespace Go.AM
open Go Go.Proofs Go.Shelf
theorem seq_iff {a b : ByteArray} : a.toList = b.toList ↔ a = b := ⟨fun h => by rw [ByteArray.toList_eq, ByteArray.toList_eq] at h; exact Go.WideShapes.bytes_inj h, fun h => by rw [h]⟩
theorem seq_dec (a b : ByteArray) : (a.toList == b.toList) = decide (a = b) := by rw [Bool.eq_iff_iff, beq_iff_eq, decide_eq_true_eq, seq_iff]
abbrev strs (l : List ByteArray) : D := .sl 1 (l.map fun s => [.raw (.string s)])
def memS (xs : List ByteArray) (v : ByteArray) : Bool := xs.any fun x => decide (v = x)
theorem memS_iff {xs : List ByteArray} {v : ByteArray} : memS xs v = true ↔ v ∈ xs := by simp [memS]
def indexB (xs : List ByteArray) (v : ByteArray) : Int := if memS xs v = true then (xs.findIdx (fun x => decide (v = x)) : Int) else -1
theorem indexB_nonneg (xs : List ByteArray) (v : ByteArray) : (0 ≤ indexB xs v) ↔ memS xs v = true := by
 unfold indexB
 split <;> simp [*]
def stIs (xs : List ByteArray) (v : ByteArray) (nb : Nat) (box : Bxs) (tok : Tks) (nt : Nat) (i : Nat) : AState := ⟨tl [(0, .d (strs xs)), (1, Sb v), (7, I xs.length), (8, I i)], lb nb box [], tok, nt⟩
theorem strs_at {l : List ByteArray} {i : Nat} (h : i < l.length) : (l.map fun s => [D.raw (.string s)])[i]? = some [D.raw (.string l[i])] := by simp [h]
theorem indexS_c (xs : List ByteArray) (v : ByteArray) (hx : xs.length ≤ 1000000) (tok : Tks) (nt : Nat) : DCall Tryz.prog 287 [.d (strs xs), Sb v] tok nt (I (indexB xs v)) tok nt := by
 intro box nb
 refine sB Tryz.func287 Tryz.ntmps287 ?_
 intro hbox htok
 simp only at hbox htok
 apply AL.start
 try (simp)
 repeat (refine sR ?_; simp)
 refine sN ?_
 refine AL.loopT (stIs xs v nb box tok nt) (fun i => i ≤ xs.length ∧ v ∉ xs.take i) (fun i => xs.length - i) 0 ⟨Nat.zero_le _, by simp⟩ (Weaks.mk (Nat.le_refl _) rfl (by simp [ToL, lk]) trivial) ?_
 rintro i S' ⟨hi, htk⟩ hS
 simp only [stIs] at hS
 subst hS
 have hw := sW (i := i) (by omega)
 try (simp)
 repeat (refine sR ?_; simp)
 refine sC ?_
 simp
 refine ⟨fun hlt => ?_, fun hge => ?_⟩
 ·have hsp : xs = xs.take i ++ xs[i] :: xs.drop (i + 1) := by simp
  by_cases he : v = xs[i]
  ·have b : (v.toList == xs[i].toList) = true := by rw [seq_dec]; simpa using he
   have hmem : memS xs v = true := memS_iff.2 (by rw [he]; exact List.getElem_mem _)
   have hid : xs.findIdx (fun x => decide (v = x)) = i := by
    rw [List.findIdx_eq hlt]
    refine ⟨by simpa using he, fun j hj => ?_⟩
    have : ¬ v = xs[j] := fun e => htk (by rw [e, List.mem_take_iff_getElem]; exact ⟨j, by omega, rfl⟩)
    simpa using this
   try (simp [hlt, b])
   repeat (refine sR ?_; simp [hlt, b])
   refine sC ?_
   simp
   try (simp)
   repeat (refine sR ?_; simp)
   refine sT ?_
   try simp only [AU]
   refine ⟨by simp, sF hbox htok (fun _ h => h) (Nat.le_refl _) ?_⟩
   simp [packA, indexB, hmem, hid]
  ·have b : (v.toList == xs[i].toList) = false := by rw [seq_dec]; simpa using he
   try (simp [hlt, b])
   repeat (refine sR ?_; simp [hlt, b])
   refine sC ?_
   simp
   try (simp [hw])
   repeat (refine sR ?_; simp [hw])
   refine sE ?_
   refine ⟨i + 1, ⟨hlt, ?_⟩, by omega, Weaks.mk (Nat.le_refl _) rfl (by simp [ToL, lk]) trivial⟩
   rw [List.take_succ_eq_append_getElem hlt]
   simp only [List.mem_append, List.mem_singleton, not_or]
   exact ⟨htk, he⟩
 ·refine sX ?_
  simp only [AU, ↓reduceIte]
  try (simp)
  repeat (refine sR ?_; simp)
  have hn : memS xs v = false := by
   rw [List.take_of_length_le hge] at htk
   rw [← Bool.not_eq_true, memS_iff]; exact htk
  refine sT ?_
  try simp only [AU]
  refine ⟨by simp, sF hbox htok (fun _ h => h) (Nat.le_refl _) ?_⟩
  simp [packA, indexB, hn]
theorem containsS_c (xs : List ByteArray) (v : ByteArray) (hx : xs.length ≤ 1000000) (tok : Tks) (nt : Nat) : DCall Tryz.prog 261 [.d (strs xs), Sb v] tok nt (B (memS xs v)) tok nt := by
 intro box nb
 refine sB Tryz.func261 Tryz.ntmps261 ?_
 intro hbox htok
 simp only at hbox htok
 apply AL.start
 try (simp)
 repeat (refine sR ?_; simp)
 refine Stop.of_d (indexS_c xs v hx _ _) ?_
 simp
 try (simp)
 repeat (refine sR ?_; simp)
 refine sT ?_
 try simp only [AU]
 refine ⟨by simp, sF hbox htok (fun _ h => h) (Nat.le_refl _) ?_⟩
 simp [packA, indexB_nonneg]
theorem indexByte_c (s : ByteArray) (c : Int) (tok : Tks) (nt : Nat) : DCall Tryz.prog 286 [Sb s, Ub c] tok nt (I (Lib.indexByte s.data.toList c.toNat.toUInt8)) tok nt := by
 intro box nb
 refine ⟨Enters.mk Tryz.func286 rfl (by kernel_rfl), fun G w vals hm hr => ?_⟩
 obtain ⟨hlen, hrv⟩ := hr
 match vals, hlen with
 | [v, u], _ =>
  have h0 := hrv 0 (by simp) (by simp)
  have h1 := hrv 1 (by simp) (by simp)
  simp only [List.getElem_cons_zero, List.getElem_cons_succ] at h0 h1
  cases h0 with
  | d h0 =>
  cases h0 with
  | raw h0 =>
  cases h1 with
  | d h1 =>
  cases h1 with
  | raw h1 =>
   refine (Tryz.strings_IndexByte s c w).mono ?_
   rintro e w' ⟨rfl, rfl⟩
   exact ⟨_, _, _, G, rfl, ⟨rfl, rfl⟩, rfl, hm, .d (.raw rfl), Le.refl _ _, fun k hk => ⟨hk, rfl⟩⟩
def quoB (c : Int) : Bool := decide (32 ≤ c ∧ c ≤ 126) && c != 34
theorem quoted1_c (c : Int) (tok : Tks) (nt : Nat) : DCall Tryz.prog 292 [Ub c] tok nt (B (quoB c)) tok nt := by
 intro box nb
 by_cases h1 : 32 ≤ c
 ·by_cases h2 : c ≤ 126
  ·refine sB Tryz.func292 Tryz.ntmps292 ?_
   intro hbox htok
   simp only at hbox htok
   apply AL.start
   try (simp [h1, h2])
   repeat (refine sR ?_; simp [h1, h2])
   refine sT ?_
   try simp only [AU]
   refine ⟨by simp, sF hbox htok (fun _ h => h) (Nat.le_refl _) ?_⟩
   simp [packA, quoB, h1, h2]
  ·refine sB Tryz.func292 Tryz.ntmps292 ?_
   intro hbox htok
   simp only at hbox htok
   apply AL.start
   try (simp [h1, h2])
   repeat (refine sR ?_; simp [h1, h2])
   refine sT ?_
   try simp only [AU]
   refine ⟨by simp, sF hbox htok (fun _ h => h) (Nat.le_refl _) ?_⟩
   simp [packA, quoB, h1, h2]
 ·refine sB Tryz.func292 Tryz.ntmps292 ?_
  intro hbox htok
  simp only at hbox htok
  apply AL.start
  try (simp [h1])
  repeat (refine sR ?_; simp [h1])
  refine sT ?_
  try simp only [AU]
  refine ⟨by simp, sF hbox htok (fun _ h => h) (Nat.le_refl _) ?_⟩
  simp [packA, quoB, h1]
end Go.AM
namespace Go.AM
open Go Go.Proofs Go.Shelf
theorem runN_le (p : Int → Bool) (s : ByteArray) (a : Nat) : runN p s a ≤ s.size - a := by
 have h := (List.takeWhile_sublist (l := s.data.toList.drop a) fun b => p (b.toNat : Int)).length_le
 rw [List.length_drop, size_toList] at h
 exact h
theorem ext1_size {s : ByteArray} : (s.extract 1 s.size).size = s.size - 1 := by simp [ByteArray.size_extract]
def quoR (s : ByteArray) : Int × Int :=
 if 1 + runN quoB (s.extract 1 s.size) 0 = s.size then (0, 2) else if byteAt s (1 + runN quoB (s.extract 1 s.size) 0) ≠ 34 then (0, 2)
 else if 60 < runN quoB (s.extract 1 s.size) 0 then (0, 3) else ((runN quoB (s.extract 1 s.size) 0 : Int) + 2, 0)
theorem quoted_c (s : ByteArray) (h1 : 1 ≤ s.size) (hs : s.size ≤ 200000000000000) (tok : Tks) (nt : Nat) : DCall Tryz.prog 284 [Sb s] tok nt (.tup [I (quoR s).1, I (quoR s).2]) tok nt := by
 intro box nb
 have hr := run_c (s.extract 1 s.size) 292 quoB (by rw [ext1_size]; omega) tok nt fun c => quoted1_c c tok nt
 have hle := runN_le quoB (s.extract 1 s.size) 0
 rw [ext1_size] at hle
 have hq : quoR s = if 1 + runN quoB (s.extract 1 s.size) 0 = s.size then (0, 2) else if byteAt s (1 + runN quoB (s.extract 1 s.size) 0) ≠ 34 then (0, 2) else if 60 < runN quoB (s.extract 1 s.size) 0 then (0, 3) else ((runN quoB (s.extract 1 s.size) 0 : Int) + 2, 0) := rfl
 generalize runN quoB (s.extract 1 s.size) 0 = n at *
 have h1' : (1 : Int) ≤ s.size := by omega
 have w1 : IntKind.i64.wrap (1 + (n : Int)) = ((1 + n : Nat) : Int) := by rw [wrap_in (by omega) (by omega)]; omega
 have w2 : IntKind.i64.wrap ((n : Int) + 2) = (n : Int) + 2 := wrap_in (by omega) (by omega)
 refine sB Tryz.func284 Tryz.ntmps284 ?_
 intro hbox htok
 simp only at hbox htok
 apply AL.start
 try (simp [h1, h1'])
 repeat (refine sR ?_; simp [h1, h1'])
 refine Stop.of_d (hr) ?_
 simp
 by_cases e1 : 1 + n = s.size
 ·have b1 : ((1 : Int) + n == s.size) = true := by rw [beq_iff_eq]; omega
  rw [if_pos e1] at hq
  rw [hq]
  try (simp [w1, b1])
  repeat (refine sR ?_; simp [w1, b1])
  refine sC ?_
  simp
  try (simp)
  repeat (refine sR ?_; simp)
  refine sT ?_
  try simp only [AU]
  refine ⟨by simp, sF hbox htok (fun _ h => h) (Nat.le_refl _) ?_⟩
  simp [packA]
 ·have b1 : ((1 : Int) + n == s.size) = false := by rw [beq_eq_false_iff_ne]; omega
  have hlt : 1 + n < s.size := by omega
  have hb := byteAt_lt hlt
  have l1 : (0 : Int) ≤ 1 + n := by omega
  have l2 : (1 : Int) + n < s.size := by omega
  have t1 : ((1 : Int) + n).toNat = 1 + n := by omega
  rw [if_neg e1] at hq
  try (simp [w1, b1, l1, l2, t1, hlt])
  repeat (refine sR ?_; simp [w1, b1, l1, l2, t1, hlt])
  rw [hb]
  by_cases e2 : byteAt s (1 + n) = 34
  ·have b2 : (byteAt s (1 + n) != 34) = false := by simp [e2]
   rw [if_neg (by simp [e2])] at hq
   simp only [b2]
   refine sC ?_
   simp
   try (simp [w2])
   repeat (refine sR ?_; simp [w2])
   by_cases e3 : 60 < n
   ·have e4 : (60 : Int) < n := by omega
    rw [if_pos e3] at hq
    rw [hq]
    refine sC ?_
    simp [e4]
    try (simp)
    repeat (refine sR ?_; simp)
    refine sT ?_
    try simp only [AU]
    refine ⟨by simp, sF hbox htok (fun _ h => h) (Nat.le_refl _) ?_⟩
    simp [packA]
   ·have e4 : ¬ (60 : Int) < n := by omega
    rw [if_neg e3] at hq
    rw [hq]
    refine sC ?_
    simp [e4]
    try (simp [w2])
    repeat (refine sR ?_; simp [w2])
    refine sT ?_
    try simp only [AU]
    refine ⟨by simp, sF hbox htok (fun _ h => h) (Nat.le_refl _) ?_⟩
    simp [packA]
  ·have b2 : (byteAt s (1 + n) != 34) = true := by simp [e2]
   rw [if_pos e2] at hq
   rw [hq]
   simp only [b2]
   refine sC ?_
   simp
   try (simp)
   repeat (refine sR ?_; simp)
   refine sT ?_
   try simp only [AU]
   refine ⟨by simp, sF hbox htok (fun _ h => h) (Nat.le_refl _) ?_⟩
   simp [packA]
def pairL : List ByteArray := [⟨#[45, 62]⟩, ⟨#[60, 61]⟩, ⟨#[62, 61]⟩, ⟨#[61, 61]⟩, ⟨#[33, 61]⟩]
def pairB (s : ByteArray) : Bool := decide (2 ≤ s.size) && memS pairL (s.extract 0 2)
theorem pair_c (s : ByteArray) (hs : s.size ≤ 200000000000000) (tok : Tks) (nt : Nat) : DCall Tryz.prog 285 [Sb s] tok nt (B (pairB s)) tok nt := by
 intro box nb
 by_cases h2 : 2 ≤ s.size
 ·have h2' : (2 : Int) ≤ s.size := by omega
  refine sB Tryz.func285 Tryz.ntmps285 ?_
  intro hbox htok
  simp only at hbox htok
  apply AL.start
  have hc := containsS_c pairL (s.extract 0 2) (by decide)
  try (simp [h2, h2'])
  repeat (refine sR ?_; simp [h2, h2'])
  refine ⟨rfl, ?_⟩
  refine Stop.data ?_
  refine Stop.of_d (hc _ _) ?_
  simp
  try (simp)
  repeat (refine sR ?_; simp)
  refine sT ?_
  try simp only [AU]
  refine ⟨by simp, sF hbox htok (fun _ h => h) (Nat.le_refl _) ?_⟩
  simp [packA, pairB, h2]
 ·have h2' : ¬ (2 : Int) ≤ s.size := by omega
  refine sB Tryz.func285 Tryz.ntmps285 ?_
  intro hbox htok
  simp only at hbox htok
  apply AL.start
  try (simp [h2, h2'])
  repeat (refine sR ?_; simp [h2, h2'])
  refine sT ?_
  try simp only [AU]
  refine ⟨by simp, sF hbox htok (fun _ h => h) (Nat.le_refl _) ?_⟩
  simp [packA, pairB, h2]
def nextR (s : ByteArray) : Int × Int × Int :=
 if letB (byteAt s 0) = true then (if 20 < runN parB s 0 then (0, 0, 3) else (1, runN parB s 0, 0))
 else if digB (byteAt s 0) = true then (if 9 < runN digB s 0 then (0, 0, 3) else (2, runN digB s 0, 0))
 else if byteAt s 0 = 34 then (3, (quoR s).1, (quoR s).2) else if pairB s = true then (4, 2, 0)
 else if 0 ≤ Lib.indexByte [123, 125, 40, 41, 91, 93, 44, 59, 58, 61, 43, 45, 42, 60, 62, 33, 38, 124, 46, 63] (UInt8.ofNat (byteAt s 0).toNat) then (4, 1, 0) else (0, 0, 2)
theorem next_c (s : ByteArray) (h1 : 1 ≤ s.size) (hs : s.size ≤ 200000000000000) (tok : Tks) (nt : Nat) : DCall Tryz.prog 259 [Sb s] tok nt (.tup [I (nextR s).1, I (nextR s).2.1, I (nextR s).2.2]) tok nt := by
 intro box nb
 have hl := letter_c (byteAt s 0)
 have hd := digit_c (byteAt s 0)
 have r1 := run_c s 282 parB hs tok nt fun c => part_c1 c tok nt
 have r2 := run_c s 283 digB hs tok nt fun c => digit_c c tok nt
 have hq := quoted_c s h1 hs
 have hp := pair_c s hs
 have hx := fun q => indexByte_c q (byteAt s 0)
 have h0 : 0 < s.size := h1
 have h0' : (0 : Int) < s.size := by omega
 have hb := byteAt_lt h0
 obtain ⟨N, hN⟩ : ∃ N, nextR s = N := ⟨_, rfl⟩
 rw [hN]
 unfold nextR at hN
 have n1 : runN parB s 0 ≤ s.size := runN_le _ _ _
 have n2 : runN digB s 0 ≤ s.size := runN_le _ _ _
 generalize runN parB s 0 = a1 at *
 generalize runN digB s 0 = a2 at *
 refine sB Tryz.func259 Tryz.ntmps259 ?_
 intro hbox htok
 simp only at hbox htok
 apply AL.start
 try (simp [h0, h0'])
 repeat (refine sR ?_; simp [h0, h0'])
 rw [hb]
 refine Stop.of_d (hl _ _) ?_
 simp
 try (simp)
 repeat (refine sR ?_; simp)
 cases e1 : letB (byteAt s 0)
 ·rw [if_neg (by simp [e1])] at hN
  refine sC ?_
  simp
  try (simp)
  repeat (refine sR ?_; simp)
  refine Stop.of_d (hd _ _) ?_
  simp
  try (simp)
  repeat (refine sR ?_; simp)
  cases e2 : digB (byteAt s 0)
  ·rw [if_neg (by simp [e2])] at hN
   refine sC ?_
   simp
   try (simp)
   repeat (refine sR ?_; simp)
   by_cases e3 : byteAt s 0 = 34
   ·rw [if_pos e3] at hN
    have b3 : (byteAt s 0 == 34) = true := by simp [e3]
    simp only [b3]
    refine sC ?_
    simp
    try (simp)
    repeat (refine sR ?_; simp)
    refine Stop.of_d (hq _ _) ?_
    simp
    try (simp)
    repeat (refine sR ?_; simp)
    refine sT ?_
    try simp only [AU]
    refine ⟨by simp, sF hbox htok (fun _ h => h) (Nat.le_refl _) ?_⟩
    simp [packA, ← hN]
   ·rw [if_neg e3] at hN
    have b3 : (byteAt s 0 == 34) = false := by simp [e3]
    simp only [b3]
    refine sC ?_
    simp
    try (simp)
    repeat (refine sR ?_; simp)
    refine Stop.of_d (hp _ _) ?_
    simp
    try (simp)
    repeat (refine sR ?_; simp)
    cases e4 : pairB s
    ·rw [if_neg (by simp [e4])] at hN
     refine sC ?_
     simp
     try (simp)
     repeat (refine sR ?_; simp)
     refine Stop.of_d (hx _ _ _) ?_
     simp
     try (simp)
     repeat (refine sR ?_; simp)
     by_cases e5 : 0 ≤ Lib.indexByte [123, 125, 40, 41, 91, 93, 44, 59, 58, 61, 43, 45, 42, 60, 62, 33, 38, 124, 46, 63] (UInt8.ofNat (byteAt s 0).toNat)
     ·rw [if_pos e5] at hN
      refine sC ?_
      simp [e5]
      try (simp)
      repeat (refine sR ?_; simp)
      refine sT ?_
      try simp only [AU]
      refine ⟨by simp, sF hbox htok (fun _ h => h) (Nat.le_refl _) ?_⟩
      simp [packA, ← hN]
     ·rw [if_neg e5] at hN
      refine sC ?_
      simp [e5]
      try (simp)
      repeat (refine sR ?_; simp)
      refine sT ?_
      try simp only [AU]
      refine ⟨by simp, sF hbox htok (fun _ h => h) (Nat.le_refl _) ?_⟩
      simp [packA, ← hN]
    ·rw [if_pos e4] at hN
     refine sC ?_
     simp
     try (simp)
     repeat (refine sR ?_; simp)
     refine sT ?_
     try simp only [AU]
     refine ⟨by simp, sF hbox htok (fun _ h => h) (Nat.le_refl _) ?_⟩
     simp [packA, ← hN]
  ·rw [if_pos e2] at hN
   refine sC ?_
   simp
   try (simp)
   repeat (refine sR ?_; simp)
   refine Stop.of_d (r2) ?_
   simp
   try (simp)
   repeat (refine sR ?_; simp)
   by_cases e3 : 9 < a2
   ·have e4 : (9 : Int) < a2 := by omega
    rw [if_pos e3] at hN
    refine sC ?_
    simp [e4]
    try (simp)
    repeat (refine sR ?_; simp)
    refine sT ?_
    try simp only [AU]
    refine ⟨by simp, sF hbox htok (fun _ h => h) (Nat.le_refl _) ?_⟩
    simp [packA, ← hN]
   ·have e4 : ¬ (9 : Int) < a2 := by omega
    rw [if_neg e3] at hN
    refine sC ?_
    simp [e4]
    try (simp)
    repeat (refine sR ?_; simp)
    refine sT ?_
    try simp only [AU]
    refine ⟨by simp, sF hbox htok (fun _ h => h) (Nat.le_refl _) ?_⟩
    simp [packA, ← hN]
 ·rw [if_pos e1] at hN
  refine sC ?_
  simp
  try (simp)
  repeat (refine sR ?_; simp)
  refine Stop.of_d (r1) ?_
  simp
  try (simp)
  repeat (refine sR ?_; simp)
  by_cases e3 : 20 < a1
  ·have e4 : (20 : Int) < a1 := by omega
   rw [if_pos e3] at hN
   refine sC ?_
   simp [e4]
   try (simp)
   repeat (refine sR ?_; simp)
   refine sT ?_
   try simp only [AU]
   refine ⟨by simp, sF hbox htok (fun _ h => h) (Nat.le_refl _) ?_⟩
   simp [packA, ← hN]
  ·have e4 : ¬ (20 : Int) < a1 := by omega
   rw [if_neg e3] at hN
   refine sC ?_
   simp [e4]
   try (simp)
   repeat (refine sR ?_; simp)
   refine sT ?_
   try simp only [AU]
   refine ⟨by simp, sF hbox htok (fun _ h => h) (Nat.le_refl _) ?_⟩
   simp [packA, ← hN]
end Go.AM
