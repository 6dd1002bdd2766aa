/-
 Parts of the proof, as merged from many texts: a machine over data, what the functions compute, plain laws.
-/
import Derived.Test.YtfgcpmeadeehhaaGreatPTD9
import Derived.Maps.AppendAt
import Derived.RowKit3
import Derived.Deep.RegionHeld3
import Derived.WalkKit
import Derived.ProofKit
import Derived.OpenShut
import Derived.ChangeStays
import Derived.SizedLaws
set_option linter.unusedSimpArgs false
set_option linter.unusedVariables false
namespace Go.AM
open Go Go.Proofs
def thrT : Ty := ⟨[⟨⟨#[65, 110, 121]⟩, -1, true, []⟩, ⟨⟨#[65]⟩, 0, false, []⟩, ⟨⟨#[66]⟩, 0, false, []⟩, ⟨⟨#[67]⟩, 0, false, []⟩], [⟨⟨#[101]⟩, 0, 0, 0, -1, 0, -1⟩, ⟨⟨#[102]⟩, 0, 0, 0, -1, 0, -1⟩]⟩
theorem thr_err : tyE thrT = 0 := by decide +kernel
def thL : List (List D) := [[.raw (.string ⟨#[65, 110, 121]⟩), .raw (.int .i64 (-1)), .raw (.bool true), .sl 0 []], [.raw (.string ⟨#[65]⟩), .raw (.int .i64 0), .raw (.bool false), .sl 0 []], [.raw (.string ⟨#[66]⟩), .raw (.int .i64 0), .raw (.bool false), .sl 0 []], [.raw (.string ⟨#[67]⟩), .raw (.int .i64 0), .raw (.bool false), .sl 0 []]]
theorem thr_sub : DSub (.sl 4 thL) (nts thrT.nodes) :=
 DSs.sub (es := thL) (es' := thrT.nodes.map NT.cells) ⟨rfl, fun i h1 h2 => by
  have h3 : i = 0 ∨ i = 1 ∨ i = 2 ∨ i = 3 := by simp [thL] at h1; omega
  rcases h3 with rfl | rfl | rfl | rfl <;> exact ds1_cons.2 ⟨.refl, ds1_cons.2 ⟨.refl, ds1_cons.2 ⟨.refl, ds1_cons.2 ⟨.emp, ds1_nil⟩⟩⟩⟩⟩ 4
def stThr (nb : Nat) (box : Bxs) (x : Acc) : AState :=
 ⟨tl [(12, I x.i), (11, I 2), (10, .d (strs [⟨#[101]⟩, ⟨#[102]⟩])), (1, .ptr (nb + 1) 0 0), (0, .ptr (nb + 0) 0 0)], lb nb box [(1, [[.d (nts thrT.nodes), .osl 7 ((thrT.edges.take x.i).map ET.cells) x.own]]), (0, [[nilS, nilS]])], x.tok, x.nt⟩
theorem three34_c (tok : Tks) (nt : Nat) : DCall Tryz.prog 30 [] tok nt thrT.av tok nt := by
 intro box nb
 refine sB Tryz.func30 Tryz.ntmps30 ?_
 intro hbox htok
 simp only at hbox htok
 apply AL.start
 try (simp)
 repeat (refine sR ?_; simp)
 refine ⟨rfl, ?_⟩
 try (simp)
 repeat (refine sR ?_; simp)
 refine ⟨rfl, ?_⟩
 try (simp)
 repeat (refine sR ?_; simp)
 refine sN ?_
 refine AL.loopT (fun x => stThr nb box x) (fun x => x.i ≤ 2 ∧ TK tok nt x.tok x.nt [x.own]) (fun x => 2 - x.i) ⟨0, .full, tok, nt⟩ ⟨by simp, (TK.start htok).full⟩ (Weaks.mk (Nat.le_refl _) rfl (by simp [ToL, lk, lb_at, strs]) (by simp [BoxL, lk]; exact .odsub thr_sub)) ?_
 rintro ⟨i, own, tok', nt'⟩ S ⟨hi, htk⟩ hS
 simp only [stThr] at hS hi htk
 subst hS
 have hi3 : i = 0 ∨ i = 1 ∨ i = 2 := by omega
 rcases hi3 with rfl | rfl | rfl
 ·try (simp)
  repeat (refine sR ?_; simp)
  refine sC ?_
  simp
  try (simp)
  repeat (refine sR ?_; simp)
  refine ⟨htk.live, ?_⟩
  try (simp [show IntKind.i64.wrap 1 = 1 from rfl, show IntKind.i64.wrap 2 = 2 from rfl])
  repeat (refine sR ?_; simp [show IntKind.i64.wrap 1 = 1 from rfl, show IntKind.i64.wrap 2 = 2 from rfl])
  refine sE ?_
  refine ⟨⟨1, _, _, _⟩, ⟨by simp, htk.app⟩, by simp, ?_⟩
  simp only [stThr]
  exact Weaks.mk htk.app.le rfl (by simp [ToL, lk, lb_at]) (by simp [BoxL, lk, thrT])
 ·try (simp)
  repeat (refine sR ?_; simp)
  refine sC ?_
  simp
  try (simp)
  repeat (refine sR ?_; simp)
  refine ⟨⟨by simp [thrT], htk.live⟩, ?_⟩
  try (simp [show IntKind.i64.wrap 1 = 1 from rfl, show IntKind.i64.wrap 2 = 2 from rfl])
  repeat (refine sR ?_; simp [show IntKind.i64.wrap 1 = 1 from rfl, show IntKind.i64.wrap 2 = 2 from rfl])
  refine sE ?_
  refine ⟨⟨2, _, _, _⟩, ⟨by simp, htk.app⟩, by simp, ?_⟩
  simp only [stThr]
  exact Weaks.mk htk.app.le rfl (by simp [ToL, lk, lb_at]) (by simp [BoxL, lk, thrT])
 ·try (simp)
  repeat (refine sR ?_; simp)
  refine sC ?_
  simp
  refine sX ?_
  simp only [AU, ↓reduceIte]
  try (simp)
  repeat (refine sR ?_; simp)
  refine sT ?_
  try simp only [AU]
  refine ⟨by simp, sF hbox htok htk.old htk.le ?_⟩
  simp [packA, show List.take 2 (List.map ET.cells thrT.edges) = List.map ET.cells thrT.edges from rfl]
end Go.AM
namespace Go.AM
open Go Go.Proofs
def lsN (g : Gr) (bn be : Nat → Bool) (i k : Nat) : Bool := bn k || (List.range i).any fun (j : Nat) => be j && (decide ((g.edges.getD j default).fr = (k : Int)) || decide ((g.edges.getD j default).to = (k : Int)))
theorem lsN_succ (g : Gr) (bn be : Nat → Bool) (i k : Nat) : lsN g bn be (i + 1) k = (lsN g bn be i k || (be i && (decide ((g.edges.getD i default).fr = (k : Int)) || decide ((g.edges.getD i default).to = (k : Int))))) := by
 unfold lsN
 rw [List.range_succ, List.any_append, Bool.or_assoc]
 simp
def lstP (g : Gr) (bn be : Nat → Bool) : Mo := ⟨mkL (lsN g bn be g.edges.length) g.nodes.length, mkL be g.edges.length⟩
theorem lstP_vp {g : Gr} {bn be : Nat → Bool} (hv : validG g = 0) : VP g (lstP g bn be) := by
 refine ⟨hv, fun x hx => ?_, fun x hx => ?_, pw_getD (mkL_pw _ _), pw_getD (mkL_pw _ _), fun x hx => ?_⟩
 ·obtain ⟨k, hk, _, rfl⟩ := mkL_mem.1 hx
  omega
 ·obtain ⟨k, hk, _, rfl⟩ := mkL_mem.1 hx
  omega
 ·obtain ⟨k, hk, hb, rfl⟩ := mkL_mem.1 hx
  obtain ⟨b1, b2, b3, b4⟩ := validG_edges hv (g.edges.getD k default) (getD_mem hk)
  have key : ∀ y : Int, 0 ≤ y → y < g.nodes.length → ((g.edges.getD k default).fr = y ∨ (g.edges.getD k default).to = y) → y ∈ mkL (lsN g bn be g.edges.length) g.nodes.length := fun y h0 h1 h => by
   refine mkL_mem.2 ⟨y.toNat, by omega, ?_, by omega⟩
   unfold lsN
   rw [Bool.or_eq_true, List.any_eq_true]
   refine .inr ⟨k, List.mem_range.2 hk, ?_⟩
   rw [hb, show ((y.toNat : Nat) : Int) = y by omega]
   simpa using h
  rw [Int.toNat_natCast]
  exact ⟨key _ b1 b2 (.inl rfl), key _ b3 b4 (.inr rfl)⟩
structure Gw (l g : Gr) (n m : Nat) : Prop where
 ex : ∃ T U, g.nodes = l.nodes ++ T ∧ g.edges = l.edges ++ U ∧ T.length ≤ n ∧ U.length ≤ m ∧ (∀ a ∈ T, 0 ≤ a ∧ a < 3) ∧ ∀ e ∈ U, (0 ≤ e.ty ∧ e.ty < 2) ∧ (0 ≤ e.fr ∧ e.fr < g.nodes.length) ∧ 0 ≤ e.to ∧ e.to < g.nodes.length
theorem Gw.refl (l : Gr) : Gw l l 0 0 := ⟨[], [], by simp, by simp, by simp, by simp, by simp, by simp⟩
theorem Gw.node {l g : Gr} {n m : Nat} {a : Int} (h : Gw l g n m) (ha : 0 ≤ a ∧ a < 3) : Gw l ⟨g.nodes ++ [a], g.edges⟩ (n + 1) m := by
 obtain ⟨T, U, h1, h2, h3, h4, h5, h6⟩ := h.ex
 refine ⟨T ++ [a], U, by rw [h1, List.append_assoc], h2, by simp; omega, h4, fun x hx => ?_, fun e he => ?_⟩
 ·rcases List.mem_append.1 hx with hx | hx
  ·exact h5 x hx
  ·rw [List.mem_singleton.1 hx]; exact ha
 ·obtain ⟨k1, k2, k3⟩ := h6 e he
  simp only [List.length_append, List.length_cons, List.length_nil]
  exact ⟨k1, by omega, by omega⟩
theorem Gw.edge {l g : Gr} {n m : Nat} {e : E} (h : Gw l g n m) (h0 : 0 ≤ e.ty ∧ e.ty < 2) (hf : 0 ≤ e.fr ∧ e.fr < g.nodes.length) (ht : 0 ≤ e.to ∧ e.to < g.nodes.length) : Gw l ⟨g.nodes, g.edges ++ [e]⟩ n (m + 1) := by
 obtain ⟨T, U, h1, h2, h3, h4, h5, h6⟩ := h.ex
 refine ⟨T, U ++ [e], h1, by rw [h2, List.append_assoc], h3, by simp; omega, h5, fun x hx => ?_⟩
 rcases List.mem_append.1 hx with hx | hx
 ·exact h6 x hx
 ·rw [List.mem_singleton.1 hx]; exact ⟨h0, hf, ht⟩
theorem Gw.mono {l g : Gr} {n m n' m' : Nat} (h : Gw l g n m) (h1 : n ≤ n') (h2 : m ≤ m') : Gw l g n' m' := by
 obtain ⟨T, U, k1, k2, k3, k4, k5, k6⟩ := h.ex
 exact ⟨T, U, k1, k2, by omega, by omega, k5, k6⟩
theorem Gw.len {l g : Gr} {n m : Nat} (h : Gw l g n m) : l.nodes.length ≤ g.nodes.length ∧ g.nodes.length ≤ l.nodes.length + n ∧ g.edges.length ≤ l.edges.length + m := by
 obtain ⟨T, U, k1, k2, k3, k4, k5, k6⟩ := h.ex
 rw [k1, k2, List.length_append, List.length_append]
 omega
theorem Gw.pre {l g : Gr} {n m : Nat} (h : Gw l g n m) (hv : validG l = 0) (h1 : l.nodes.length + n ≤ 40) (h2 : l.edges.length + m ≤ 80) : Pre l g := by
 have hl := h.len
 obtain ⟨T, U, k1, k2, k3, k4, k5, k6⟩ := h.ex
 obtain ⟨v0, v1, v2⟩ := validG_types hv
 refine ⟨hv, validG_of (by omega) (fun x hx => ?_) (fun e he => ?_), ⟨T, k1⟩, ⟨U, k2⟩⟩
 ·rw [k1] at hx
  rcases List.mem_append.1 hx with hx | hx
  ·exact v1 x hx
  ·have := k5 x hx
   exact within_of this.1 (by omega)
 ·rw [k2] at he
  rcases List.mem_append.1 he with he | he
  ·have := v2 e he
   rw [fitsB_iff] at this ⊢
   exact ⟨this.1, by omega, by omega⟩
  ·obtain ⟨t1, t2, t3⟩ := k6 e he
   rw [fitsB_iff]
   exact ⟨within_of t1.1 (by omega), t2, t3⟩
structure InK (g : Gr) : Prop where
 n : ∀ a ∈ g.nodes, 0 ≤ a ∧ a < 3
 e : ∀ x ∈ g.edges, 0 ≤ x.ty ∧ x.ty < 2
theorem Gw.inK {l g : Gr} {n m : Nat} (h : Gw l g n m) (hl : InK l) : InK g := by
 obtain ⟨T, U, k1, k2, k3, k4, k5, k6⟩ := h.ex
 refine ⟨fun a ha => ?_, fun x hx => ?_⟩
 ·rw [k1] at ha
  rcases List.mem_append.1 ha with ha | ha
  ·exact hl.n a ha
  ·exact k5 a ha
 ·rw [k2] at hx
  rcases List.mem_append.1 hx with hx | hx
  ·exact hl.e x hx
  ·exact (k6 x hx).1
theorem madeG_in (x : Dr) : InK (madeG x) := by
 refine ⟨fun a ha => ?_, fun e he => ?_⟩
 ·simp only [madeG, mN, List.mem_map] at ha
  obtain ⟨k, hk, rfl⟩ := ha
  omega
 ·simp only [madeG] at he
  split at he
  ·simp at he
  ·simp only [mE, List.mem_map] at he
   obtain ⟨k, hk, rfl⟩ := he
   simp only
   omega
theorem exG_in {g : Gr} {p : Mo} (hp : VP g p) (h : InK g) : InK (exG g p) := by
 refine ⟨fun a ha => ?_, fun x hx => ?_⟩
 ·simp only [exG, List.mem_map] at ha
  obtain ⟨k, hk, rfl⟩ := ha
  have := hp.n k hk
  exact h.n _ (getD_mem (by omega))
 ·simp only [exG, List.mem_map] at hx
  obtain ⟨k, hk, rfl⟩ := hx
  have := hp.e k hk
  exact h.e (g.edges.getD k.toNat default) (getD_mem (by omega))
theorem gwN_ex (ns cs : List Int) : ∀ i, ∃ T, gwN ns cs i = ns ++ T ∧ T.length ≤ i ∧ ∀ a ∈ T, 0 ≤ a ∧ a < 3
 | 0 => ⟨[], by simp [gwN], by simp, by simp⟩
 | i + 1 => by
  obtain ⟨T, h1, h2, h3⟩ := gwN_ex ns cs i
  by_cases h : i < cs.length
  ·by_cases h0 : 1 ≤ i
   ·rw [gwN_more h h0]
    split
    ·refine ⟨T ++ [cs[i] / 2 % 3], by rw [h1, List.append_assoc], by simp; omega, fun a ha => ?_⟩
     rcases List.mem_append.1 ha with ha | ha
     ·exact h3 a ha
     ·rw [List.mem_singleton.1 ha]; omega
    ·exact ⟨T, h1, by omega, h3⟩
   ·refine ⟨[], ?_, by simp, by simp⟩
    rw [gwN, List.drop_eq_nil_of_le (by simp; omega)]
    simp
  ·refine ⟨T, ?_, by omega, h3⟩
   rw [← h1]
   unfold gwN
   rw [List.take_of_length_le (by omega), List.take_of_length_le (by omega)]
theorem gwE_ex {n : Nat} (hn : 0 < n) (es : List E) (cs : List Int) : ∀ i, ∃ U, gwE n es cs i = es ++ U ∧ U.length ≤ i ∧ ∀ e ∈ U, (0 ≤ e.ty ∧ e.ty < 2) ∧ (0 ≤ e.fr ∧ e.fr < n) ∧ 0 ≤ e.to ∧ e.to < n
 | 0 => ⟨[], by simp [gwE], by simp, by simp⟩
 | i + 1 => by
  obtain ⟨T, h1, h2, h3⟩ := gwE_ex hn es cs i
  by_cases h : i < cs.length
  ·by_cases h0 : 4 ≤ i
   ·rw [gwE_more h h0]
    refine ⟨T ++ [⟨cs[i] % 2, cs[i] / 2 % n, cs[i] / 16 % n⟩], by rw [h1, List.append_assoc], by simp; omega, fun a ha => ?_⟩
    rcases List.mem_append.1 ha with ha | ha
    ·exact h3 a ha
    ·rw [List.mem_singleton.1 ha]
     have hnz : (n : Int) ≠ 0 := by omega
     have hp : (0 : Int) < n := by omega
     exact ⟨by simp only; omega, ⟨Int.emod_nonneg _ hnz, Int.emod_lt_of_pos _ hp⟩, Int.emod_nonneg _ hnz, Int.emod_lt_of_pos _ hp⟩
   ·refine ⟨[], ?_, by simp, by simp⟩
    rw [gwE, List.drop_eq_nil_of_le (by simp; omega)]
    simp
  ·refine ⟨T, ?_, by omega, h3⟩
   rw [← h1]
   unfold gwE
   rw [List.take_of_length_le (by omega), List.take_of_length_le (by omega)]
theorem gwG_gw (g : Gr) (cs : List Int) : Gw g (gwG g cs) 4 8 := by
 obtain ⟨T, h1, h2, h3⟩ := gwN_ex g.nodes cs (min cs.length 4)
 by_cases h0 : (gwN g.nodes cs (min cs.length 4)).length = 0
 ·refine ⟨T, [], h1, ?_, by omega, by simp, h3, by simp⟩
  simp only [gwG, if_pos h0, List.append_nil]
 ·obtain ⟨U, k1, k2, k3⟩ := gwE_ex (show 0 < (gwN g.nodes cs (min cs.length 4)).length by omega) g.edges cs (min cs.length 8)
  refine ⟨T, U, h1, ?_, by omega, by omega, h3, k3⟩
  simp only [gwG, if_neg h0]
  exact k1
def upG (g : Gr) : Gr := ⟨g.nodes.map fun a => a + 1, g.edges⟩
theorem upG_len (g : Gr) : (upG g).nodes.length = g.nodes.length := by simp [upG]
theorem upG_valid {g : Gr} (hv : validG g = 0) (h : InK g) : validG (upG g) = 0 := by
 obtain ⟨v0, v1, v2⟩ := validG_types hv
 refine validG_of (by rw [upG_len]; exact v0) (fun x hx => ?_) (fun e he => ?_)
 ·simp only [upG, List.mem_map] at hx
  obtain ⟨a, ha, rfl⟩ := hx
  have := h.n a ha
  exact within_of (by omega) (by omega)
 ·rw [upG_len]; exact v2 e he
theorem upG_pre {l g : Gr} (h : Pre l g) (h1 : InK l) (h2 : InK g) : Pre (upG l) (upG g) := by
 obtain ⟨T, ht⟩ := h.n
 obtain ⟨U, hu⟩ := h.e
 exact ⟨upG_valid h.va h1, upG_valid h.vb h2, ⟨T.map fun a => a + 1, by simp only [upG]; rw [ht, List.map_append]⟩, ⟨U, hu⟩⟩
theorem upG_ex {g : Gr} {p : Mo} (hp : VP g p) : exG (upG g) p = upG (exG g p) := by
 simp only [exG, upG, List.map_map]
 refine congrArg (fun l => Gr.mk l _) (List.map_congr_left fun k hk => ?_)
 have := hp.n k hk
 have hl : k.toNat < g.nodes.length := by omega
 simp [hl]
theorem upG_vp {g : Gr} {p : Mo} (hp : VP g p) (h : InK g) : VP (upG g) p := ⟨upG_valid hp.va h, by rw [upG_len]; exact hp.n, hp.e, hp.sn, hp.se, hp.c⟩
theorem upG_id (g : Gr) : idM (upG g) = idM g := by unfold idM; rw [upG_len]; rfl
theorem upG_fit {g : Gr} (h : g.Fit) : (upG g).Fit := ⟨by rw [upG_len]; exact h.n, h.e⟩
end Go.AM
namespace Go.AM
open Go Go.Proofs Go.RowKit
def rB (l : List Bool) : List (List D) := l.map fun b => [D.raw (.bool b)]
abbrev bls (l : List Bool) : D := .sl 1 (rB l)
theorem rvd_bls {c : Addr → Option Value} {ps : Addr → Prop} {l : List Bool} {v : Value} (h : RVd c ps (bls l) v) :
  ∃ A cap, v = .slice A l.length cap ∧ l.length ≤ cap ∧ cap ≤ maxLen ∧ (l ≠ [] → ∃ a, A = some a) ∧ ∀ a, A = some a → ∀ i, i < l.length → c (a.add i) = some (.bool (l.getD i false)) := by
 unfold bls rB at h
 generalize hes : (l.map fun n => [D.raw (.bool n)]) = es at h
 cases h with
 | @sl _ _ A cap u hcap hmax hsz hA hc hr =>
  have hl : es.length = l.length := by rw [← hes]; simp
  refine ⟨A, cap, by rw [hl], by omega, hmax, fun hne => hA (by intro e; rw [e] at hl; exact hne (List.length_eq_zero_iff.1 hl.symm)), fun a ha i hi => ?_⟩
  have g := (hc a ha i 0 (by omega) (by decide)).2
  have r := hr i 0 (by omega) (by rw [hsz _ (List.getElem_mem _)]; decide)
  have e1 : es[i][0]'(by rw [hsz _ (List.getElem_mem _)]; decide) = D.raw (.bool l[i]) := by
   subst hes
   simp
  rw [e1] at r
  have e2 : u i 0 = .bool l[i] := by
   generalize hu : u i 0 = x at r
   cases r
   rfl
  rw [Nat.mul_one, Nat.add_zero, e2] at g
  rw [g]
  simp [hi]
theorem rvd_edges {c : Addr → Option Value} {ps : Addr → Prop} {l : List E} {v : Value} (h : RVd c ps (AM.edges l) v) :
  ∃ A cap, v = .slice A l.length cap ∧ l.length ≤ cap ∧ cap ≤ maxLen ∧ (l ≠ [] → ∃ a, A = some a) ∧ ∀ a, A = some a → ∀ i, i < l.length → c (a.add (i * 3 + 0)) = some (.int .i64 (l.getD i default).ty) ∧ c (a.add (i * 3 + 1)) = some (.int .i64 (l.getD i default).fr) ∧ c (a.add (i * 3 + 2)) = some (.int .i64 (l.getD i default).to) := by
 unfold AM.edges at h
 generalize hes : l.map E.cells = es at h
 cases h with
 | @sl _ _ A cap u hcap hmax hsz hA hc hr =>
  have hl : es.length = l.length := by rw [← hes]; simp
  refine ⟨A, cap, by rw [hl], by omega, hmax, fun hne => hA (by intro e; rw [e] at hl; exact hne (List.length_eq_zero_iff.1 hl.symm)), fun a ha i hi => ?_⟩
  have hge : l.getD i default = l[i] := by simp [hi]
  have key : ∀ (j : Nat) (hj : j < 3) (n : Int), (l[i].cells)[j]'(by simpa [E.cells] using hj) = D.raw (.int .i64 n) → c (a.add (i * 3 + j)) = some (.int .i64 n) := fun j hj n hn => by
   have g := (hc a ha i j (by omega) hj).2
   have r := hr i j (by omega) (by rw [hsz _ (List.getElem_mem _)]; exact hj)
   have e1 : es[i][j]'(by rw [hsz _ (List.getElem_mem _)]; exact hj) = D.raw (.int .i64 n) := by
    subst hes
    rw [← hn]
    simp
   rw [e1] at r
   generalize hu : u i j = x at r g
   cases r
   exact g
  rw [hge]
  exact ⟨key 0 (by decide) _ rfl, key 1 (by decide) _ rfl, key 2 (by decide) _ rfl⟩
abbrev eV (e : E) : List Value := [.int .i64 e.ty, .int .i64 e.fr, .int .i64 e.to]
theorem flatE_get : ∀ (es : List E) (i j : Nat), i < es.length → j < 3 → (es.flatMap eV)[i * 3 + j]? = (eV (es.getD i default))[j]?
 | e :: r, 0, j, _, hj => by
  rw [List.flatMap_cons, List.getElem?_append_left (by simp; omega)]
  simp
 | e :: r, i + 1, j, hi, hj => by
  rw [List.flatMap_cons, List.getElem?_append_right (by simp; omega)]
  have ih := flatE_get r i j (by simpa using hi) hj
  rw [show (i + 1) * 3 + j - (eV e).length = i * 3 + j by simp; omega, ih]
  simp
theorem flatE_len (es : List E) : (es.flatMap eV).length = es.length * 3 := by
 induction es with
 | nil => rfl
 | cons e r ih => rw [List.flatMap_cons, List.length_append, ih]; simp; omega
theorem rvd_ownE {G : Gh} {w w' : World} {m : AMem} (hm : RelM G m w) {v : Value} {xs : List E} (h : w'.ownsRow w.heap.size 133 3 v xs.length (xs.flatMap eV)) : RVd w'.cell? G.ps (AM.edges xs) v := by
 rcases h.2 with ⟨rfl, h0⟩ | ⟨g, cap, cur, rfl, hb, hg, h1, h2, h3, h4⟩
 ·obtain rfl : xs = [] := List.length_eq_zero_iff.1 h0
  exact .sl (es := []) (fun _ _ => default) (Nat.le_refl _) (by decide) (by simp) (by simp) (by simp) (by simp)
 ·have hl : xs.length = (xs.map E.cells).length := by simp
  have hat : ∀ i j, i < xs.length → j < 3 → cur[i * 3 + j]? = (eV (xs.getD i default))[j]? := fun i j hi hj => by
   have e : (cur.toList.take (xs.length * 3))[i * 3 + j]? = (xs.flatMap eV)[i * 3 + j]? := by rw [h4]
   rw [List.getElem?_take, if_pos (by omega), Array.getElem?_toList, flatE_get xs i j hi hj] at e
   exact e
  unfold AM.edges
  conv => rhs; rw [hl]
  refine .sl (fun i j => (eV (xs.getD i default)).getD j default) (by simpa using h1) h2 (fun e he => ?_) (fun _ => ⟨_, rfl⟩) (fun a ha i j hi hj => ?_) (fun i j hi hj => ?_)
  ·obtain ⟨y, _, rfl⟩ := List.mem_map.1 he
   rfl
  ·cases ha
   have hi' : i < xs.length := by simpa using hi
   refine ⟨?_, ?_⟩
   ·unfold Gh.ps
    have hbl : (Addr.add ⟨g, 0, none⟩ (i * 3 + j)).block = g := by unfold Addr.add; split <;> rfl
    rw [hbl, hm.fresh g hb]
    trivial
   ·have ha : Addr.add ⟨g, 0, none⟩ (i * 3 + j) = ⟨g, i * 3 + j, none⟩ := by
     unfold Addr.add
     split
     ·rename_i h0; congr 1; omega
     ·simp
    rw [ha]
    simp only [World.cell?, hg, Option.isSome_none, Bool.false_eq_true, if_false]
    rw [hat i j hi' hj]
    match j, hj with
    | 0, _ => rfl
    | 1, _ => rfl
    | 2, _ => rfl
  ·have hi' : i < xs.length := by simpa using hi
   have hj3 : j < 3 := by simpa [E.cells] using hj
   have e : xs.getD i default = xs[i] := by simp [hi']
   simp only [List.getElem_map, e]
   match j, hj3 with
   | 0, _ => exact .raw rfl
   | 1, _ => exact .raw rfl
   | 2, _ => exact .raw rfl
theorem spot_none {w : World} {a : Addr} {u : Value} (h : w.cell? (a.add 0) = some u) : a.spot = none := by
 cases hsp : a.spot with
 | none => rfl
 | some q =>
  exfalso
  simp only [World.cell?, Addr.add, hsp, Option.isSome_some, ↓reduceIte] at h
  split at h <;> simp at h
end Go.AM
namespace Go.Proofs.YtfgcpmeadeehhaaGreat.kt
open Go Go.Proofs Go.RowKit
theorem news_ints {w : World} {A : Option Addr} {n : Nat} {ns : List Int} (hn : ns.length = n) (h : ∀ a, A = some a → ∀ j, j < n → w.cell? (a.add j) = some (.int .i64 (ns.getD j 0))) :
  ∀ ad, A = some ad → ∀ j u, (ns.map (Value.int .i64))[j]? = some u → w.cell? (ad.add j) = some u := fun ad had j u hj => by
 by_cases hjn : j < n
 ·rw [h ad had j hjn]
  have : j < ns.length := by omega
  simp [this] at hj ⊢
  exact hj
 ·rw [List.getElem?_eq_none (by simp; omega)] at hj
  cases hj
theorem one_ints (ns : List Int) : ∀ u ∈ ns.map (Value.int .i64), u.oneCell' = true := fun u hu => by
 obtain ⟨b, _, rfl⟩ := List.mem_map.1 hu
 rfl
theorem one_edges (es : List AM.E) : ∀ u ∈ es.flatMap AM.eV, u.oneCell' = true := fun u hu => by
 obtain ⟨e, _, he⟩ := List.mem_flatMap.1 hu
 simp only [List.mem_cons, List.not_mem_nil, or_false] at he
 rcases he with rfl | rfl | rfl <;> rfl
theorem frozen_cells (w : World) (c : Array Value) (t : TypeId) (a : Addr) : (w.alloc (.cells c t)).frozen? a = w.frozen? a := frozen?_alloc_cells w c t a
def cd (w : World) (a : Addr) : Value := (w.cell? a).getD undef
theorem cd_some {w : World} {a : Addr} (h : (w.cell? a).isSome = true) : w.cell? a = some (cd w a) := by
 unfold cd
 cases e : w.cell? a with
 | none => rw [e] at h; cases h
 | some u => rfl
theorem own_drew {w : World} {base : Nat} {e : TypeId} {size : Nat} {v : Value} {n : Nat} {xs : List Value} (h : w.ownsRow base e size v n xs) : w.drew.ownsRow base e size v n xs := h
theorem own_alloc {w : World} {base : Nat} {e : TypeId} {size : Nat} {v : Value} {n : Nat} {xs : List Value} {o : Obj} (h : w.ownsRow base e size v n xs) : (w.alloc o).ownsRow base e size v n xs := World.ownsRow.alloc h o
theorem own_grown {w w' : World} {base : Nat} {e : TypeId} {size : Nat} {v : Value} {n : Nat} {xs : List Value} {g : Nat} (hg : w.grownBy w' (some g)) (hne : v.ownBlock ≠ some g) (h : w.ownsRow base e size v n xs) : w'.ownsRow base e size v n xs := World.ownsRow.kept h hg (.inr hne)
theorem some_drew {w : World} {a : Addr} (h : (w.cell? a).isSome = true) : (w.drew.cell? a).isSome = true := h
theorem some_alloc {w : World} {o : Obj} {a : Addr} (h : (w.cell? a).isSome = true) : ((w.alloc o).cell? a).isSome = true := by
 obtain ⟨u, hu⟩ := Option.isSome_iff_exists.1 h
 rw [((Below.refl w.heap.size w).alloc (Nat.le_refl _) o).cell (World.block_lt_of_cell? w _ hu)]; exact h
theorem some_grown {w w' : World} {b off g : Nat} (hg : w.grownBy w' (some g)) (hne : b ≠ g) (h : (w.cell? ⟨b, off, none⟩).isSome = true) : (w'.cell? ⟨b, off, none⟩).isSome = true := by
 obtain ⟨u, hu⟩ := Option.isSome_iff_exists.1 h
 rw [hg.cell_far _ (World.block_lt_of_cell? w _ hu) (by simpa using hne)]; exact h
theorem eq_drew {w : World} {a : Addr} {u : Value} (h : w.cell? a = some u) : w.drew.cell? a = some u := h
theorem eq_alloc {w : World} {o : Obj} {a : Addr} {u : Value} (h : w.cell? a = some u) : (w.alloc o).cell? a = some u := by
 rw [((Below.refl w.heap.size w).alloc (Nat.le_refl _) o).cell (World.block_lt_of_cell? w _ h)]; exact h
theorem eq_grown {w w' : World} {b off g : Nat} {u : Value} (hg : w.grownBy w' (some g)) (hne : b ≠ g) (h : w.cell? ⟨b, off, none⟩ = some u) : w'.cell? ⟨b, off, none⟩ = some u := by
 rw [hg.cell_far _ (World.block_lt_of_cell? w _ h) (by simpa using hne)]; exact h
theorem eq_set {w : World} {p a : Addr} {u v : Value} (hne : p ≠ a) (h : w.cell? a = some u) : (w.setCell p v).cell? a = some u := by
 rw [World.cell?_setCell_other w p a v hne]; exact h
theorem fr_drew {w : World} {a : Addr} (h : w.frozen? a = false) : w.drew.frozen? a = false := h
theorem fr_alloc {w : World} {c : Array Value} {t : TypeId} {a : Addr} (h : w.frozen? a = false) : (w.alloc (.cells c t)).frozen? a = false := by rw [frozen_cells]; exact h
theorem fr_grown {w w' : World} {b off g : Nat} (hg : w.grownBy w' (some g)) (hne : b ≠ g) (hs : (w.cell? ⟨b, off, none⟩).isSome = true) (h : w.frozen? ⟨b, off, none⟩ = false) : w'.frozen? ⟨b, off, none⟩ = false := by
 obtain ⟨u, hu⟩ := Option.isSome_iff_exists.1 hs
 rw [hg.frozen_far _ (World.block_lt_of_cell? w _ hu) (by simpa using hne)]; exact h
theorem fr_set {w : World} {p a : Addr} {v : Value} (h : w.frozen? a = false) : (w.setCell p v).frozen? a = false := by simpa using h
theorem set_some {w : World} {p a : Addr} {v : Value} (h : (w.cell? a).isSome = true) : ((w.setCell p v).cell? a).isSome = true := by
 by_cases e : p = a
 ·subst e
  obtain ⟨u, hu⟩ := Option.isSome_iff_exists.1 h
  rw [World.cell?_setCell_same w p v hu]
  rfl
 ·rw [World.cell?_setCell_other w p a v e]; exact h
theorem heap_at {w : World} {o : Obj} {B : Nat} (h : w.heap.size = B) : (w.alloc o).heap[B]? = some o := by subst h; exact alloc_at _ _
theorem heap_skip {w : World} {o u : Obj} {B : Nat} (h : w.heap[B]? = some u) : (w.alloc o).heap[B]? = some u := by
 rw [Below.heap_alloc _ _ _ (Array.getElem?_eq_some_iff.1 h).1]; exact h
theorem heap_grown {w w' : World} {u : Obj} {B g : Nat} (hg : w.grownBy w' (some g)) (hne : B ≠ g) (h : w.heap[B]? = some u) : w'.heap[B]? = some u := by
 rw [hg.block B (Array.getElem?_eq_some_iff.1 h).1 (by simpa using hne)]; exact h
theorem news_below {w w' : World} {A : Option Addr} {news : List Value} (hb : Below w.heap.size w w') (h : ∀ ad, A = some ad → ∀ j u, news[j]? = some u → w.cell? (ad.add j) = some u) : ∀ ad, A = some ad → ∀ j u, news[j]? = some u → w'.cell? (ad.add j) = some u := fun ad had j u hj => by
 have hc := h ad had j u hj
 rw [hb.cell (World.block_lt_of_cell? w _ hc)]
 exact hc
theorem run_src {P : Program} (w : World) (t ty e : TypeId) (i : TypeInfo) (z : Value) (size bytes : Nat) (ht : P.underlying t = some (.slice e)) (hi : P.info? e = some i) (hz : i.zero = some z)
  (hsize : i.size = size) (hby : i.bytes = bytes) (hzs : z.cells.size = size) (hsz : 0 < size) (B : Nat) (hB : w.heap[B]? = some (.cells #[] e (0, 0)))
  (A : Option Addr) (m c : Nat) (news : List Value) (hl : news.length = m * size) (hA : A = none → m = 0) (hnews : ∀ ad, A = some ad → ∀ j u, news[j]? = some u → w.cell? (ad.add j) = some u) (h1 : ∀ u ∈ news, u.oneCell' = true)
  (h63 : m ≤ maxLen) (hbytes : m * bytes ≤ 140737488355328) (H : Nat) (hH : w.heap.size = H) :
  ∃ A' c' w', (Builtin.append_ #[t, t] ty #[.slice (some ⟨B, 0, none⟩) 0 0, .slice A m c]).run P w = .ok (.slice A' m c') w' ∧ w'.ownsRow B e size (.slice A' m c') m news ∧ w.grownBy w' (some B) ∧ ((Value.slice A' m c').ownBlock = some B ∨ (Value.slice A' m c').ownBlock = some H) := by
 have hBs : B < w.heap.size := (Array.getElem?_eq_some_iff.1 hB).1
 have hown : w.ownsRow B e size (.slice (some ⟨B, 0, none⟩) 0 0) 0 [] := ⟨by simp, .inr ⟨B, 0, #[], rfl, Nat.le_refl _, hB, Nat.le_refl _, Nat.zero_le _, by simp, by simp⟩⟩
 cases A with
 | some ad =>
  obtain ⟨v', w', hr, h2, h3, _, h5⟩ := run_append_own_at (P := P) w B t ty e i z size bytes ht hi hz hsize hby hzs hsz _ 0 [] hown ad m c news hl (hnews ad rfl) h1 (by omega) (by simpa using hbytes) (by omega)
  rw [Nat.zero_add, List.nil_append] at h2
  obtain ⟨A', c', rfl⟩ := owns_slice h2
  refine ⟨A', c', w', hr, h2, h3, ?_⟩
  rcases h5 with h5 | h5
  ·exact .inl h5
  ·exact .inr (by rw [h5, hH])
 | none =>
  obtain rfl := hA rfl
  have hn : news = [] := List.length_eq_zero_iff.1 (by omega)
  subst hn
  exact ⟨_, _, w, run_append_none (P := P) (w := w) B t ty e i size ht hi _ 0 c [] hown, hown, ⟨rfl, rfl, rfl, Nat.le_refl _, fun _ _ _ => rfl⟩, .inl rfl⟩
theorem step_src {P : Program} {w : World} {ops : Array Oper} {o : Oper} {a : Act} {K : Act → World → Prop} {Q : Exit → Act → World → Prop} {E : Prop} (hgd : o.guard = none) (s x : Operand) (t : TypeId)
  (ho : o.op = .call { callee := .builtin .append, args := #[s, x], argTypes := #[t, t] })
  (e : TypeId) (i : TypeInfo) (z : Value) (size bytes : Nat) (ht : P.underlying t = some (.slice e)) (hi : P.info? e = some i) (hz : i.zero = some z)
  (hsize : i.size = size) (hby : i.bytes = bytes) (hzs : z.cells.size = size) (hsz : 0 < size) (B : Nat) (hs : a.eval s = .slice (some ⟨B, 0, none⟩) 0 0) (hB : w.heap[B]? = some (.cells #[] e (0, 0)))
  (A : Option Addr) (m c : Nat) (news : List Value) (hx : a.eval x = .slice A m c) (hl : news.length = m * size) (hA : A = none → m = 0) (hnews : ∀ ad, A = some ad → ∀ j u, news[j]? = some u → w.cell? (ad.add j) = some u) (h1 : ∀ u ∈ news, u.oneCell' = true)
  (h63 : m ≤ maxLen) (hbytes : m * bytes ≤ 140737488355328) (H : Nat) (hH : w.heap.size = H)
  (h : ∀ A' c' w', w'.ownsRow B e size (.slice A' m c') m news → w.grownBy w' (some B) → ((Value.slice A' m c').ownBlock = some B ∨ (Value.slice A' m c').ownBlock = some H) → K (a.put o.dst (.slice A' m c')) w') :
  if Region.wanted o (yielded ops a.tmps) = true then Oper.wp P o a w K Q else E := by
 have hw : Region.wanted o (yielded ops a.tmps) = true := by simp [Region.wanted, hgd]
 rw [if_pos hw]
 obtain ⟨A', c', w', hr, h2, h3, h4⟩ := run_src (P := P) w t o.type e i z size bytes ht hi hz hsize hby hzs hsz B hB A m c news hl hA hnews h1 h63 hbytes H hH
 unfold Oper.wp execOp
 simp only [ho, resolve, invoke, builtin, Sem.run_bind, Sem.run_pure, Result.andThen_ok, List.map_toArray, List.map_cons, List.map_nil, hs, hx, hr]
 exact h A' c' w' h2 h3 h4
set_option maxHeartbeats 40000000 in
set_option maxRecDepth 100000 in
theorem copied_k (AN AE : Option Addr) (n cn m ce : Nat) (ns : List Int) (es : List AM.E) (w : World) (hn : n ≤ 1000000) (hm : m ≤ 1000000) (hns : ns.length = n) (hes : es.length = m) (hAN : AN = none → n = 0) (hAE : AE = none → m = 0)
    (hcn : ∀ a, AN = some a → ∀ j, j < n → w.cell? (a.add j) = some (.int .i64 (ns.getD j 0)))
    (hce : ∀ a, AE = some a → ∀ j u, (es.flatMap AM.eV)[j]? = some u → w.cell? (a.add j) = some u) :
    Calls Tryz.prog 76 #[.agg #[.slice AN n cn, .slice AE m ce]] w fun e w' => ∃ v u, e = .returned (.agg #[v, u]) ∧
      w'.ownsRow w.heap.size 3 1 v n (ns.map (Value.int .i64)) ∧ w'.ownsRow w.heap.size 133 3 u m (es.flatMap AM.eV) ∧ Below w.heap.size w w' := by
  obtain ⟨i0, hi, hz0, hz1, hz2⟩ := info_parts infoI
  obtain ⟨i1, hj, hy0, hy1, hy2⟩ := info_parts infoE
  have hadd : ∀ (a : Addr) j, (a.add j).block = a.block := fun a j => by unfold Addr.add; split <;> rfl
  have hf0 : ((w.alloc (.cells #[.slice AN n cn, .slice AE m ce] 25)).alloc (.cells #[.slice none 0 0, .slice none 0 0] 25)).frozen? ⟨w.heap.size + 1, 0, none⟩ = false := by simp
  have hf1 : ((w.alloc (.cells #[.slice AN n cn, .slice AE m ce] 25)).alloc (.cells #[.slice none 0 0, .slice none 0 0] 25)).frozen? ⟨w.heap.size + 1, 1, none⟩ = false := by simp
  have hb0 : (((w.alloc (.cells #[.slice AN n cn, .slice AE m ce] 25)).alloc (.cells #[.slice none 0 0, .slice none 0 0] 25)).cell? ⟨w.heap.size + 1, 0, none⟩).isSome = true := by simp
  have hb1 : (((w.alloc (.cells #[.slice AN n cn, .slice AE m ce] 25)).alloc (.cells #[.slice none 0 0, .slice none 0 0] 25)).cell? ⟨w.heap.size + 1, 1, none⟩).isSome = true := by simp
  have hb2 : ((w.alloc (.cells #[.slice AN n cn, .slice AE m ce] 25)).alloc (.cells #[.slice none 0 0, .slice none 0 0] 25)).cell? ⟨w.heap.size, 0, none⟩ = some (.slice AN n cn) := by simp
  have hb3 : ((w.alloc (.cells #[.slice AN n cn, .slice AE m ce] 25)).alloc (.cells #[.slice none 0 0, .slice none 0 0] 25)).cell? ⟨w.heap.size, 1, none⟩ = some (.slice AE m ce) := by simp
  go_enter Tryz.func76, Tryz.ntmps76
  go_wp2_with fail
  go_region_held3 (fun w' => w'.cell? ⟨w.heap.size, 0, none⟩ = some (.slice AN n cn) ∧ w'.cell? ⟨w.heap.size, 1, none⟩ = some (.slice AE m ce) ∧ w'.cell? ⟨w.heap.size + 1, 0, none⟩ = some (cd w' ⟨w.heap.size + 1, 0, none⟩) ∧ w'.cell? ⟨w.heap.size + 1, 1, none⟩ = some (cd w' ⟨w.heap.size + 1, 1, none⟩) ∧ w'.frozen? ⟨w.heap.size + 1, 0, none⟩ = false ∧ w'.frozen? ⟨w.heap.size + 1, 1, none⟩ = false)
    ((go_split_ands; refine ⟨?_, ?_, ?_, ?_, ?_, ?_⟩; (focus (repeat (with_reducible first | exact hb2 | exact hb3 | refine eq_drew ?_ | refine eq_alloc ?_ | refine eq_set (by simp) ?_ | refine eq_grown hg1 (by omega) ?_ | refine eq_grown hg2 (by omega) ?_)); (first | done | (trace_state; fail))); (focus (repeat (with_reducible first | exact hb2 | exact hb3 | refine eq_drew ?_ | refine eq_alloc ?_ | refine eq_set (by simp) ?_ | refine eq_grown hg1 (by omega) ?_ | refine eq_grown hg2 (by omega) ?_)); (first | done | (trace_state; fail))); (focus (refine cd_some ?_; repeat (with_reducible first | exact hb0 | exact hb1 | refine some_drew ?_ | refine some_alloc ?_ | refine set_some ?_ | refine some_grown hg1 (by omega) ?_ | refine some_grown hg2 (by omega) ?_)); (first | done | (trace_state; fail))); (focus (refine cd_some ?_; repeat (with_reducible first | exact hb0 | exact hb1 | refine some_drew ?_ | refine some_alloc ?_ | refine set_some ?_ | refine some_grown hg1 (by omega) ?_ | refine some_grown hg2 (by omega) ?_)); (first | done | (trace_state; fail))); (focus (repeat (with_reducible first | exact hf0 | exact hf1 | refine fr_drew ?_ | refine fr_alloc ?_ | refine fr_set ?_ | refine fr_grown hg1 (by omega) (by repeat (with_reducible first | exact hb0 | exact hb1 | refine some_drew ?_ | refine some_alloc ?_ | refine set_some ?_ | refine some_grown hg1 (by omega) ?_ | refine some_grown hg2 (by omega) ?_)) ?_ | refine fr_grown hg2 (by omega) (by repeat (with_reducible first | exact hb0 | exact hb1 | refine some_drew ?_ | refine some_alloc ?_ | refine set_some ?_ | refine some_grown hg1 (by omega) ?_ | refine some_grown hg2 (by omega) ?_)) ?_)); (first | done | (trace_state; fail))); (focus (repeat (with_reducible first | exact hf0 | exact hf1 | refine fr_drew ?_ | refine fr_alloc ?_ | refine fr_set ?_ | refine fr_grown hg1 (by omega) (by repeat (with_reducible first | exact hb0 | exact hb1 | refine some_drew ?_ | refine some_alloc ?_ | refine set_some ?_ | refine some_grown hg1 (by omega) ?_ | refine some_grown hg2 (by omega) ?_)) ?_ | refine fr_grown hg2 (by omega) (by repeat (with_reducible first | exact hb0 | exact hb1 | refine some_drew ?_ | refine some_alloc ?_ | refine set_some ?_ | refine some_grown hg1 (by omega) ?_ | refine some_grown hg2 (by omega) ?_)) ?_)))))
    ((first
      | (refine step_src (by rfl) _ _ 22 (by rfl) 3 i0 _ 1 8 Tryz.underlying22 hi hz0 hz1 hz2 rfl (by decide) _ (by rfl)
          (by first | exact heap_at (by simp) | exact heap_skip (heap_at (by simp)) | exact heap_grown hg2 (by (try simp) <;> omega) (heap_at (by simp)) | exact heap_grown hg2 (by (try simp) <;> omega) (heap_skip (heap_at (by simp))) | exact heap_at (by simp; omega))
          AN n cn (ns.map (Value.int .i64)) (by rfl) (by simp [hns]) hAN
          (news_below (by repeat (first | exact Below.refl _ _ | refine Below.drew ?_ | refine Below.alloc ?_ (by (try simp) <;> omega) _ | refine Below.grown ?_ hg2 (by (try simp) <;> omega) (fun q hq => by cases hq; omega))) (news_ints hns hcn))
          (one_ints ns) (by unfold maxLen; omega) (by omega) _ rfl ?_; intro A1 c1 w1 own1 hg1 hat1; have hs1 := hg1.size; (try simp at hs1))
      | (refine step_src (by rfl) _ _ 23 (by rfl) 133 i1 _ 3 24 Tryz.underlying23 hj hy0 hy1 hy2 rfl (by decide) _ (by rfl)
          (by first | exact heap_at (by simp) | exact heap_skip (heap_at (by simp)) | exact heap_grown hg1 (by (try simp) <;> omega) (heap_at (by simp)) | exact heap_grown hg1 (by (try simp) <;> omega) (heap_skip (heap_at (by simp))) | exact heap_at (by simp; omega))
          AE m ce (es.flatMap AM.eV) (by rfl) (by rw [AM.flatE_len, hes]) hAE
          (news_below (by repeat (first | exact Below.refl _ _ | refine Below.drew ?_ | refine Below.alloc ?_ (by (try simp) <;> omega) _ | refine Below.grown ?_ hg1 (by (try simp) <;> omega) (fun q hq => by cases hq; omega))) hce)
          (one_edges es) (by unfold maxLen; omega) (by omega) _ rfl ?_; intro A2 c2 w2 own2 hg2 hat2; have hs2 := hg2.size; (try simp at hs2))))
  all_goals (first
    | (have q0 : (w2.cell? ⟨w.heap.size + 1, 0, none⟩).isSome = true := by repeat (with_reducible first | exact hb0 | exact hb1 | refine some_drew ?_ | refine some_alloc ?_ | refine set_some ?_ | refine some_grown hg1 (by omega) ?_ | refine some_grown hg2 (by omega) ?_)
       have q1 : (w2.cell? ⟨w.heap.size + 1, 1, none⟩).isSome = true := by repeat (with_reducible first | exact hb0 | exact hb1 | refine some_drew ?_ | refine some_alloc ?_ | refine set_some ?_ | refine some_grown hg1 (by omega) ?_ | refine some_grown hg2 (by omega) ?_)
       have z0 := eq_set (p := ⟨w.heap.size + 1, 1, none⟩) (v := .slice A2 m c2) (by simp) (World.cell?_setCell_same w2 ⟨w.heap.size + 1, 0, none⟩ (.slice A1 n c1) (cd_some q0))
       have z1 := World.cell?_setCell_same (w2.setCell ⟨w.heap.size + 1, 0, none⟩ (.slice A1 n c1)) ⟨w.heap.size + 1, 1, none⟩ (.slice A2 m c2) (cd_some (set_some q1))
       have o1 : ((w2.setCell ⟨w.heap.size + 1, 0, none⟩ (.slice A1 n c1)).setCell ⟨w.heap.size + 1, 1, none⟩ (.slice A2 m c2)).ownsRow (w.heap.size + 1 + 1) 3 1 (.slice A1 n c1) n (ns.map (Value.int .i64)) := by repeat (first | with_reducible exact owns_mono own1 (by omega) | with_reducible refine owns_setCell ?_ (by (try simp) <;> omega) _ | with_reducible refine own_drew ?_ | with_reducible refine own_alloc ?_ | refine own_grown hg2 (by intro h; have h5 := World.ownsRow.lt own1 _ h; rcases hat1 with h4 | h4 <;> rw [h] at h4 <;> simp at h4 <;> omega) ?_)
       have o2 : ((w2.setCell ⟨w.heap.size + 1, 0, none⟩ (.slice A1 n c1)).setCell ⟨w.heap.size + 1, 1, none⟩ (.slice A2 m c2)).ownsRow (w.heap.size + 1 + 1) 133 3 (.slice A2 m c2) m (es.flatMap AM.eV) := by repeat (first | with_reducible exact owns_mono own2 (by omega) | with_reducible refine owns_setCell ?_ (by (try simp) <;> omega) _ | with_reducible refine own_drew ?_ | with_reducible refine own_alloc ?_ | refine own_grown hg1 (by intro h; have h5 := World.ownsRow.lt own2 _ h; rcases hat2 with h4 | h4 <;> rw [h] at h4 <;> simp at h4 <;> omega) ?_)
       have hb : Below w.heap.size w ((w2.setCell ⟨w.heap.size + 1, 0, none⟩ (.slice A1 n c1)).setCell ⟨w.heap.size + 1, 1, none⟩ (.slice A2 m c2)) := by repeat (with_reducible first | exact Below.refl _ _ | refine Below.drew ?_ | refine Below.setCell ?_ (by (try simp) <;> omega) _ | refine Below.alloc ?_ (by (try simp) <;> omega) _ | refine Below.grown ?_ hg1 (by (try simp) <;> omega) (fun q hq => by cases hq; omega) | refine Below.grown ?_ hg2 (by (try simp) <;> omega) (fun q hq => by cases hq; omega))
       generalize ((w2.setCell ⟨w.heap.size + 1, 0, none⟩ (.slice A1 n c1)).setCell ⟨w.heap.size + 1, 1, none⟩ (.slice A2 m c2)) = wf at *
       clear hb0 hb1 hb2 hb3 hf0 hf1 q0 q1
       go_wp2
       refine bodyPost_ret (by simp [results, Tryz.results76, go_sem, z0, z1]; try rfl) rfl ?_
       exact ⟨_, _, rfl, owns_mono o1 (by omega), owns_mono o2 (by omega), hb⟩)
    | (have q0 : (w1.cell? ⟨w.heap.size + 1, 0, none⟩).isSome = true := by repeat (with_reducible first | exact hb0 | exact hb1 | refine some_drew ?_ | refine some_alloc ?_ | refine set_some ?_ | refine some_grown hg1 (by omega) ?_ | refine some_grown hg2 (by omega) ?_)
       have q1 : (w1.cell? ⟨w.heap.size + 1, 1, none⟩).isSome = true := by repeat (with_reducible first | exact hb0 | exact hb1 | refine some_drew ?_ | refine some_alloc ?_ | refine set_some ?_ | refine some_grown hg1 (by omega) ?_ | refine some_grown hg2 (by omega) ?_)
       have z0 := eq_set (p := ⟨w.heap.size + 1, 1, none⟩) (v := .slice A2 m c2) (by simp) (World.cell?_setCell_same w1 ⟨w.heap.size + 1, 0, none⟩ (.slice A1 n c1) (cd_some q0))
       have z1 := World.cell?_setCell_same (w1.setCell ⟨w.heap.size + 1, 0, none⟩ (.slice A1 n c1)) ⟨w.heap.size + 1, 1, none⟩ (.slice A2 m c2) (cd_some (set_some q1))
       have o1 : ((w1.setCell ⟨w.heap.size + 1, 0, none⟩ (.slice A1 n c1)).setCell ⟨w.heap.size + 1, 1, none⟩ (.slice A2 m c2)).ownsRow (w.heap.size + 1 + 1) 3 1 (.slice A1 n c1) n (ns.map (Value.int .i64)) := by repeat (first | with_reducible exact owns_mono own1 (by omega) | with_reducible refine owns_setCell ?_ (by (try simp) <;> omega) _ | with_reducible refine own_drew ?_ | with_reducible refine own_alloc ?_ | refine own_grown hg2 (by intro h; have h5 := World.ownsRow.lt own1 _ h; rcases hat1 with h4 | h4 <;> rw [h] at h4 <;> simp at h4 <;> omega) ?_)
       have o2 : ((w1.setCell ⟨w.heap.size + 1, 0, none⟩ (.slice A1 n c1)).setCell ⟨w.heap.size + 1, 1, none⟩ (.slice A2 m c2)).ownsRow (w.heap.size + 1 + 1) 133 3 (.slice A2 m c2) m (es.flatMap AM.eV) := by repeat (first | with_reducible exact owns_mono own2 (by omega) | with_reducible refine owns_setCell ?_ (by (try simp) <;> omega) _ | with_reducible refine own_drew ?_ | with_reducible refine own_alloc ?_ | refine own_grown hg1 (by intro h; have h5 := World.ownsRow.lt own2 _ h; rcases hat2 with h4 | h4 <;> rw [h] at h4 <;> simp at h4 <;> omega) ?_)
       have hb : Below w.heap.size w ((w1.setCell ⟨w.heap.size + 1, 0, none⟩ (.slice A1 n c1)).setCell ⟨w.heap.size + 1, 1, none⟩ (.slice A2 m c2)) := by repeat (with_reducible first | exact Below.refl _ _ | refine Below.drew ?_ | refine Below.setCell ?_ (by (try simp) <;> omega) _ | refine Below.alloc ?_ (by (try simp) <;> omega) _ | refine Below.grown ?_ hg1 (by (try simp) <;> omega) (fun q hq => by cases hq; omega) | refine Below.grown ?_ hg2 (by (try simp) <;> omega) (fun q hq => by cases hq; omega))
       generalize ((w1.setCell ⟨w.heap.size + 1, 0, none⟩ (.slice A1 n c1)).setCell ⟨w.heap.size + 1, 1, none⟩ (.slice A2 m c2)) = wf at *
       clear hb0 hb1 hb2 hb3 hf0 hf1 q0 q1
       go_wp2
       refine bodyPost_ret (by simp [results, Tryz.results76, go_sem, z0, z1]; try rfl) rfl ?_
       exact ⟨_, _, rfl, owns_mono o1 (by omega), owns_mono o2 (by omega), hb⟩)
    | trace_state)
end Go.Proofs.YtfgcpmeadeehhaaGreat.kt
namespace Go.AM
open Go Go.Proofs Go.RowKit
theorem addr_add (b off j : Nat) : (⟨b, off, none⟩ : Addr).add j = ⟨b, off + j, none⟩ := by
 unfold Addr.add
 split
 ·rename_i e; subst e; rfl
 ·rfl
theorem agg2 {G : Gh} {w : World} {x y : AV} {v : Value} (h : RV G w (.agg [x, y]) v) : ∃ v1 v2, v = .agg #[v1, v2] ∧ RV G w x v1 ∧ RV G w y v2 := by
 cases h with
 | @agg _ vs hl h2 h3 =>
  match vs, hl with
  | [v1, v2], _ => exact ⟨v1, v2, rfl, h2 0 (by simp) (by simp), h2 1 (by simp) (by simp)⟩
theorem agg2_of {G : Gh} {w : World} {x y : AV} {v1 v2 : Value} (h1 : RV G w x v1) (h2 : RV G w y v2) (o1 : v1.oneCell' = true) (o2 : v2.oneCell' = true) : RV G w (.agg [x, y]) (.agg #[v1, v2]) := by
 have := RV.agg (G := G) (w := w) (cs := [x, y]) (vs := [v1, v2]) rfl (fun i g1 g2 => by
  match i, g1 with
  | 0, _ => exact h1
  | 1, _ => exact h2) (by simp [o1, o2])
 exact this
theorem rvd_d {G : Gh} {w : World} {x : D} {v : Value} (h : RV G w (.d x) v) : RVd w.cell? G.ps x v := by cases h with | d h => exact h
theorem owns_one {w : World} {base : Nat} {e : TypeId} {size : Nat} {v : Value} {n : Nat} {xs : List Value} (h : w.ownsRow base e size v n xs) : v.oneCell' = true := by
 obtain ⟨A, c, rfl⟩ := YtfgcpmeadeehhaaGreat.kt.owns_slice h
 rfl
theorem lsK_get (g : Gr) (hv : validG g = 0) (N E : List Bool) (hN : N.length = g.nodes.length) : ∀ i, i ≤ g.edges.length → ∀ k, k < g.nodes.length →
  (lsK N E (fun j => (g.edges.getD j default).fr.toNat) (fun j => (g.edges.getD j default).to.toNat) i).getD k false = lsN g (fun k => N.getD k false) (fun k => E.getD k false) i k
 | 0, _, k, hk => by simp [lsK, lsN]
 | i + 1, hi, k, hk => by
  have ih := lsK_get g hv N E hN i (by omega) k hk
  obtain ⟨b1, b2, b3, b4⟩ := validG_edges hv (g.edges.getD i default) (getD_mem (by omega))
  rw [lsN_succ, ← ih]
  have hl := lsK_len N E (fun j => (g.edges.getD j default).fr.toNat) (fun j => (g.edges.getD j default).to.toNat) i
  cases he : E.getD i false
  ·rw [lsK_no he]; simp
  ·rw [lsK_yes he]
   generalize lsK N E _ _ i = L at *
   have set_get : ∀ (M : List Bool) (a : Nat), a < M.length → (M.set a true).getD k false = (M.getD k false || decide (a = k)) := fun M a ha => by
    by_cases e : a = k
    ·subst e; simp [ha]
    ·simp [e]
   rw [set_get _ _ (by rw [List.length_set]; omega), set_get _ _ (by omega)]
   have e1 : ((g.edges.getD i default).fr.toNat = k) = ((g.edges.getD i default).fr = (k : Int)) := by rw [eq_iff_iff]; omega
   have e2 : ((g.edges.getD i default).to.toNat = k) = ((g.edges.getD i default).to = (k : Int)) := by rw [eq_iff_iff]; omega
   simp only [e1, e2, Bool.true_and, Bool.or_assoc]
theorem least_c (g : Gr) (hg : g.Fit) (hv : validG g = 0) (N E : List Bool) (hN : N.length = g.nodes.length) (hE : E.length = g.edges.length) (tok : Tks) (nt : Nat) :
  DCall Tryz.prog 199 [g.av, .d (bls N), .d (bls E)] tok nt (lstP g (fun k => N.getD k false) (fun k => E.getD k false)).av tok nt := by
 intro box nb
 have hgn := hg.n
 have hge := hg.e
 refine ⟨Enters.mk Tryz.func199 rfl (by kernel_rfl), fun G w vals hm hr => ?_⟩
 obtain ⟨hlen, hrv⟩ := hr
 match vals, hlen with
 | [v, x, y], _ =>
  have h0 := hrv 0 (by simp) (by simp)
  have h1 := hrv 1 (by simp) (by simp)
  have h2 := hrv 2 (by simp) (by simp)
  simp only [List.getElem_cons_zero, List.getElem_cons_succ] at h0 h1 h2
  obtain ⟨v1, v2, rfl, g1, g2⟩ := agg2 h0
  obtain ⟨AE, ce, rfl, hce, hmE, hAE, hcE⟩ := rvd_edges (rvd_d g2)
  obtain ⟨AN, cn, rfl, hcn, hmN, hAN, hcN⟩ := rvd_bls (rvd_d h1)
  obtain ⟨AB, cb, rfl, hcb, hmB, hAB, hcB⟩ := rvd_bls (rvd_d h2)
  have hANz : AN = none → N.length = 0 := fun e => by
   by_cases hN0 : N = []
   ·rw [hN0]; rfl
   ·obtain ⟨a, ha⟩ := hAN hN0
    rw [e] at ha; cases ha
  by_cases h0 : g.edges.length = 0
  ·have hE0 : E.length = 0 := by omega
   rw [h0, hE0]
   refine (YtfgcpmeadeehhaaGreat.kt.least_zero v1 AE AN AB ce N.length cn cb N w (by omega) rfl hANz (fun a ha j hj => hcN a ha j hj)).mono ?_
   rintro e w' ⟨u1, u2, rfl, o1, o2, hb⟩
   have e1 : mkL (fun k => N.getD k false) N.length = (lstP g (fun k => N.getD k false) (fun k => E.getD k false)).nodes := by
    unfold lstP
    simp only
    rw [h0, hN]
    exact mkL_ext fun k hk => by simp [lsN]
   have e2 : mkL (fun k => false) 0 = (lstP g (fun k => N.getD k false) (fun k => E.getD k false)).edges := by
    unfold lstP
    simp only
    rw [h0]
    rfl
   rw [e1] at o1
   rw [e2] at o2
   exact ⟨_, _, _, G, rfl, ⟨rfl, rfl⟩, rfl, relM_below hm hb, agg2_of (.d (rvd_owns hm o1)) (.d (rvd_owns hm o2)) (owns_one o1) (owns_one o2), le_below hm hb, fun k hk => ⟨hk, rfl⟩⟩
  ·have hed := fun j (hj : j < g.edges.length) => validG_edges hv (g.edges.getD j default) (getD_mem hj)
   have hn0 : 0 < g.nodes.length := by have := hed 0 (by omega); omega
   obtain ⟨a1, rfl⟩ := hAE (by intro e; rw [e] at h0; exact h0 rfl)
   obtain ⟨a2, rfl⟩ := hAN (by intro e; rw [e] at hN; simp at hN; omega)
   obtain ⟨a3, rfl⟩ := hAB (by intro e; rw [e] at hE; simp at hE; omega)
   have cE := hcE a1 rfl
   have cN := hcN a2 rfl
   have cB := hcB a3 rfl
   have s1 := spot_none (a := a1.add 0) (by
    have := (cE 0 (by omega)).1
    simp only [Nat.zero_mul, Nat.zero_add] at this
    have e : (a1.add 0).add 0 = a1.add 0 := by unfold Addr.add; simp
    rw [e]; exact this)
   have s1' : a1.spot = none := by unfold Addr.add at s1; simpa using s1
   have s2 := spot_none (cN 0 (by omega))
   have s3 := spot_none (cB 0 (by omega))
   obtain ⟨be, oe, sp⟩ := a1
   obtain ⟨bn, on, sp2⟩ := a2
   obtain ⟨bm, om, sp3⟩ := a3
   simp only at s1' s2 s3
   subst s1' s2 s3
   simp only [addr_add] at cE cN cB
   have q1 := World.block_lt_of_cell? w _ (cE 0 (by omega)).2.1
   have q2 := World.block_lt_of_cell? w _ (cN 0 (by omega))
   have q3 := World.block_lt_of_cell? w _ (cB 0 (by omega))
   rw [hN]
   rw [hN] at cN
   rw [hE]
   rw [hE] at cB
   refine (YtfgcpmeadeehhaaGreat.kt.least_any v1 be oe g.edges.length ce bn on g.nodes.length cn bm om cb N E (fun j => (g.edges.getD j default).fr.toNat) (fun j => (g.edges.getD j default).to.toNat) w hn0 (by omega) (by omega) hN hE q1 q2 q3
    (fun j hj => by have := hed j hj; omega) (fun j hj => by have := hed j hj; omega) (fun j hj => ?_) cN cB).mono ?_
   ·have h3 := hed j hj
    obtain ⟨_, c1, c2⟩ := cE j hj
    refine ⟨?_, ?_⟩
    ·rw [show oe + j * 3 + 1 = oe + (j * 3 + 1) by omega, c1, show (((g.edges.getD j default).fr.toNat : Nat) : Int) = (g.edges.getD j default).fr by omega]
    ·rw [show oe + j * 3 + 2 = oe + (j * 3 + 2) by omega, c2, show (((g.edges.getD j default).to.toNat : Nat) : Int) = (g.edges.getD j default).to by omega]
   ·rintro e w' ⟨u1, u2, rfl, o1, o2, hb⟩
    have e1 : mkL (fun k => (lsK N E (fun j => (g.edges.getD j default).fr.toNat) (fun j => (g.edges.getD j default).to.toNat) g.edges.length).getD k false) g.nodes.length = (lstP g (fun k => N.getD k false) (fun k => E.getD k false)).nodes := by
     unfold lstP
     simp only
     exact mkL_ext fun k hk => lsK_get g hv N E hN _ (Nat.le_refl _) k hk
    have e2 : mkL (fun k => E.getD k false) g.edges.length = (lstP g (fun k => N.getD k false) (fun k => E.getD k false)).edges := rfl
    rw [e1] at o1
    rw [e2] at o2
    exact ⟨_, _, _, G, rfl, ⟨rfl, rfl⟩, rfl, relM_below hm hb, agg2_of (.d (rvd_owns hm o1)) (.d (rvd_owns hm o2)) (owns_one o1) (owns_one o2), le_below hm hb, fun k hk => ⟨hk, rfl⟩⟩
end Go.AM
namespace Go.Proofs.YtfgcpmeadeehhaaGreat.kt
open Go Go.Proofs Go.RowKit
def upK (ns : List Int) (k : Nat) : List Int := (ns.take k).map (fun a => a + 1) ++ ns.drop k
theorem upK_len (ns : List Int) (k : Nat) : (upK ns k).length = ns.length := by unfold upK; simp; omega
theorem upK_zero (ns : List Int) : upK ns 0 = ns := by simp [upK]
theorem upK_all (ns : List Int) : upK ns ns.length = ns.map fun a => a + 1 := by simp [upK]
theorem upK_at {ns : List Int} {k : Nat} (h : k < ns.length) : (upK ns k).getD k 0 = ns.getD k 0 := by
 unfold upK
 rw [List.getD_eq_getElem?_getD, List.getElem?_append_right (by simp; omega)]
 simp [show min k ns.length = k by omega, h]
theorem upK_set {ns : List Int} {k : Nat} (h : k < ns.length) : (upK ns k).set k (ns.getD k 0 + 1) = upK ns (k + 1) := by
 unfold upK
 have hl : ((ns.take k).map (fun a => a + 1)).length = k := by simp; omega
 rw [List.set_append_right _ _ (by omega), hl, Nat.sub_self, List.take_succ_eq_append_getElem h, List.map_append, List.append_assoc]
 have e : ns.drop k = ns[k] :: ns.drop (k + 1) := List.drop_eq_getElem_cons h
 have g : ns.getD k 0 = ns[k] := by simp [h]
 rw [g, e]
 rfl
set_option maxHeartbeats 4000000 in
set_option maxRecDepth 100000 in
theorem up_any (AN AE : Option Addr) (n cn m ce : Nat) (ns : List Int) (es : List AM.E) (w : World) (hn : n ≤ 1000000) (hm : m ≤ 1000000) (hns : ns.length = n) (hes : es.length = m) (hAN : AN = none → n = 0) (hAE : AE = none → m = 0)
  (hcn : ∀ a, AN = some a → ∀ j, j < n → w.cell? (a.add j) = some (.int .i64 (ns.getD j 0)))
  (hce : ∀ a, AE = some a → ∀ j u, (es.flatMap AM.eV)[j]? = some u → w.cell? (a.add j) = some u) (hr : ∀ k, k < n → IntKind.i64.wrap (ns.getD k 0 + 1) = ns.getD k 0 + 1) :
  Calls Tryz.prog 29 #[.agg #[.slice AN n cn, .slice AE m ce]] w fun e w' => ∃ v u, e = .returned (.agg #[v, u]) ∧
   w'.ownsRow w.heap.size 3 1 v n ((upK ns n).map (Value.int .i64)) ∧ w'.ownsRow w.heap.size 133 3 u m (es.flatMap AM.eV) ∧ Below w.heap.size w w' := by
 have hck := fun (w' : World) (h : ∀ a, AN = some a → ∀ j, j < n → w'.cell? (a.add j) = some (.int .i64 (ns.getD j 0))) (h2 : ∀ a, AE = some a → ∀ j u, (es.flatMap AM.eV)[j]? = some u → w'.cell? (a.add j) = some u) => copied_k AN AE n cn m ce ns es w' hn hm hns hes hAN hAE h h2
 go_enter Tryz.func29, Tryz.ntmps29
 go_wp2_with fail
 have hB2 : Below w.heap.size w ((w.alloc (.cells #[.slice AN n cn, .slice AE m ce] 25)).alloc (.cells #[.slice none 0 0, .slice none 0 0] 25)) := ((Below.refl w.heap.size w).alloc (Nat.le_refl _) _).alloc (by simp) _
 have hAs : ((w.alloc (.cells #[.slice AN n cn, .slice AE m ce] 25)).alloc (.cells #[.slice none 0 0, .slice none 0 0] 25)).heap.size = w.heap.size + 1 + 1 := by simp
 have hx0 : ((w.alloc (.cells #[.slice AN n cn, .slice AE m ce] 25)).alloc (.cells #[.slice none 0 0, .slice none 0 0] 25)).cell? ⟨w.heap.size + 1, 0, none⟩ = some (.slice none 0 0) := by simp
 have hx1 : ((w.alloc (.cells #[.slice AN n cn, .slice AE m ce] 25)).alloc (.cells #[.slice none 0 0, .slice none 0 0] 25)).cell? ⟨w.heap.size + 1, 1, none⟩ = some (.slice none 0 0) := by simp
 have hf0 : ((w.alloc (.cells #[.slice AN n cn, .slice AE m ce] 25)).alloc (.cells #[.slice none 0 0, .slice none 0 0] 25)).frozen? ⟨w.heap.size + 1, 0, none⟩ = false := by simp
 have hf1 : ((w.alloc (.cells #[.slice AN n cn, .slice AE m ce] 25)).alloc (.cells #[.slice none 0 0, .slice none 0 0] 25)).frozen? ⟨w.heap.size + 1, 1, none⟩ = false := by simp
 generalize ((w.alloc (.cells #[.slice AN n cn, .slice AE m ce] 25)).alloc (.cells #[.slice none 0 0, .slice none 0 0] 25)) = wA at *
 refine (hck wA (fun a ha j hj => by
  have h := hcn a ha j hj
  rw [hB2.cell (World.block_lt_of_cell? w _ h)]
  exact h) (news_below hB2 hce)).mono ?_
 rintro e w1 ⟨v, u, rfl, o1, o2, hb⟩
 obtain ⟨A1, c1, rfl⟩ := owns_slice o1
 obtain ⟨A2, c2, rfl⟩ := owns_slice o2
 clear hck hcn hce hAN hAE
 have hz0 := (hb.cell (p := ⟨w.heap.size + 1, 0, none⟩) (by simp; omega)).trans hx0
 have hz1 := (hb.cell (p := ⟨w.heap.size + 1, 1, none⟩) (by simp; omega)).trans hx1
 have hg0 := (hb.frozen (p := ⟨w.heap.size + 1, 0, none⟩) (by simp; omega)).trans hf0
 have hg1 := (hb.frozen (p := ⟨w.heap.size + 1, 1, none⟩) (by simp; omega)).trans hf1
 go_wp2_with fail
 have hs1 := hb.size
 have hB1 : Below w.heap.size w (w1.alloc (.cells #[.slice A1 n c1, .slice A2 m c2] 25)) := (hB2.trans (hb.mono (by omega))).alloc (by omega) _
 have ho1 := own_alloc (o := .cells #[.slice A1 n c1, .slice A2 m c2] 25) o1
 have ho2 := own_alloc (o := .cells #[.slice A1 n c1, .slice A2 m c2] 25) o2
 have hz0' : (w1.alloc (.cells #[.slice A1 n c1, .slice A2 m c2] 25)).cell? ⟨w.heap.size + 1, 0, none⟩ = some (.slice none 0 0) := eq_alloc hz0
 have hz1' : (w1.alloc (.cells #[.slice A1 n c1, .slice A2 m c2] 25)).cell? ⟨w.heap.size + 1, 1, none⟩ = some (.slice none 0 0) := eq_alloc hz1
 have hg0' : (w1.alloc (.cells #[.slice A1 n c1, .slice A2 m c2] 25)).frozen? ⟨w.heap.size + 1, 0, none⟩ = false := fr_alloc hg0
 have hg1' : (w1.alloc (.cells #[.slice A1 n c1, .slice A2 m c2] 25)).frozen? ⟨w.heap.size + 1, 1, none⟩ = false := fr_alloc hg1
 have hb0 : (w1.alloc (.cells #[.slice A1 n c1, .slice A2 m c2] 25)).cell? ⟨w1.heap.size, 0, none⟩ = some (.slice A1 n c1) := by simp
 have hb1 : (w1.alloc (.cells #[.slice A1 n c1, .slice A2 m c2] 25)).cell? ⟨w1.heap.size, 1, none⟩ = some (.slice A2 m c2) := by simp
 have hlt1 := World.ownsRow.lt o1
 have hlt2 := World.ownsRow.lt o2
 clear hz0 hz1 hg0 hg1 hx0 hx1 hf0 hf1 o1 o2 hb hB2
 generalize (w1.alloc (.cells #[.slice A1 n c1, .slice A2 m c2] 25)) = wB at *
 by_cases h0 : n = 0
 ·subst h0
  go_loopw [10] (fun i wr => i = .int .i64 0 ∧ wr = wB) (fun i _ => 0)
  case atStart => exact ⟨rfl, rfl⟩
  case round =>
   obtain ⟨rfl, rfl⟩ := hrel
   go_wp2
   refine bodyPost_ret (by simp [results, Tryz.results29, go_sem, hz0', hz1', hg0', hg1']; try rfl) rfl ?_
   exact ⟨_, _, rfl, owns_mono (owns_setCell (owns_setCell (by rw [upK_zero]; exact ho1) (by simp; omega) _) (by simp; omega) _) (by omega), owns_mono (owns_setCell (owns_setCell ho2 (by simp; omega) _) (by simp; omega) _) (by omega), (hB1.setCell (by simp) _).setCell (by simp) _⟩
 ·obtain ⟨g, c, e, hgl, hgw⟩ := ho1.form (by omega)
  cases e
  have hgb : g < w1.heap.size := (hlt1 g rfl).2
  have hne2 : (Value.slice A2 m c2).ownBlock ≠ some g := by
   intro h
   cases A2 with
   | none => simp [Value.ownBlock] at h
   | some a =>
    have e1 : a.block = g := by simpa [Value.ownBlock] using h
    have hh := ho1.2
    have hk := ho2.2
    rcases hh with ⟨hh, _⟩ | ⟨g1, _, _, hh, _, h3, _⟩
    ·cases hh
    ·rcases hk with ⟨hk, _⟩ | ⟨g2, _, _, hk, _, k3, _⟩
     ·cases hk
     ·cases hh
      cases hk
      simp only at e1
      subst e1
      rw [h3] at k3
      injection k3 with k3
      injection k3 with _ k4 _
      exact absurd k4 (by decide)
  go_loopw [10] (fun i wr => ∃ k : Nat, k ≤ n ∧ i = .int .i64 k ∧ wr.ownsRow wA.heap.size 3 1 (.slice (some ⟨g, 0, none⟩) n c1) n ((upK ns k).map (Value.int .i64)) ∧ wB.grownBy wr (some g)) (fun i _ => n - (intOf i).toNat)
  case atStart => exact ⟨0, Nat.zero_le _, rfl, by rw [upK_zero]; exact ho1, ⟨rfl, rfl, rfl, Nat.le_refl _, fun _ _ _ => rfl⟩⟩
  case round =>
   obtain ⟨k, hk, rfl, hown, hgr⟩ := hrel
   have hll := upK_len ns k
   have hc0 := eq_grown (off := 0) hgr (show w1.heap.size ≠ g by omega) hb0
   have hc1 := eq_grown (off := 1) hgr (show w1.heap.size ≠ g by omega) hb1
   have y0 := eq_grown (off := 0) hgr (show w.heap.size + 1 ≠ g by omega) hz0'
   have y1 := eq_grown (off := 1) hgr (show w.heap.size + 1 ≠ g by omega) hz1'
   have y2 := fr_grown (off := 0) hgr (show w.heap.size + 1 ≠ g by omega) (by rw [hz0']; rfl) hg0'
   have y3 := fr_grown (off := 1) hgr (show w.heap.size + 1 ≠ g by omega) (by rw [hz1']; rfl) hg1'
   have hck : k < n → wr.cell? ⟨g, k, none⟩ = some (.int .i64 (ns.getD k 0)) := fun h => by
    rw [hown.cellAt k (by omega)]
    have h2 := upK_at (ns := ns) (k := k) (by omega)
    rw [← h2]
    simp [show k < (upK ns k).length by omega]
   have hfz := hown.frozenAt k
   have hwr := hr k
   have hst := hown.stored k (.int .i64 (ns.getD k 0 + 1))
   go_wp2
   ·have hlt : k < n := by assumption
    have hwr := hwr hlt
    have e1 : ns.getD k 0 = ns[k]'(by omega) := by simp [show k < ns.length by omega]
    have e2 : wrap64 (ns[k]'(by omega) + 1) = ns.getD k 0 + 1 := by
     rw [e1] at hwr ⊢
     first | (rw [← Go.IntWalk.i64_left]; exact hwr) | exact (Go.IntWalk.i64_left _).symm.trans hwr
    rw [e2]
    refine ⟨⟨k + 1, by omega, by simp, ?_, hgr.trans hst.2⟩, by simp [intOf]; omega⟩
    rw [← upK_set (by omega), List.map_set]
    exact hst.1
   ·have hkm : ¬ k < n := by assumption
    obtain rfl : k = n := by omega
    refine bodyPost_ret (by simp [results, Tryz.results29, go_sem, y0, y1, y2, y3]; try rfl) rfl ?_
    have hB3 : Below w.heap.size w wr := hB1.grown hgr (by have := hB1.size; omega) (fun q hq => by cases hq; omega)
    exact ⟨_, _, rfl, owns_mono (owns_setCell (owns_setCell hown (by simp; omega) _) (by simp; omega) _) (by omega), owns_mono (owns_setCell (owns_setCell (own_grown hgr hne2 ho2) (by simp; omega) _) (by simp; omega) _) (by omega), (hB3.setCell (by simp) _).setCell (by simp) _⟩
end Go.Proofs.YtfgcpmeadeehhaaGreat.kt
namespace Go.AM
open Go Go.Proofs Go.RowKit
theorem up34_c (g : Gr) (hg : g.Fit) (hi : InK g) (tok : Tks) (nt : Nat) : DCall Tryz.prog 29 [g.av] tok nt (upG g).av tok nt := by
 intro box nb
 have hgn := hg.n
 have hge := hg.e
 refine ⟨Enters.mk Tryz.func29 rfl (by kernel_rfl), fun G w vals hm hr => ?_⟩
 obtain ⟨hlen, hrv⟩ := hr
 match vals, hlen with
 | [v], _ =>
  have h0 := hrv 0 (by simp) (by simp)
  simp only [List.getElem_cons_zero] at h0
  obtain ⟨v1, v2, rfl, g1, g2⟩ := agg2 h0
  obtain ⟨AE, ce, rfl, hce, hmE, hAE, hcE⟩ := rvd_edges (rvd_d g2)
  obtain ⟨AN, cn, rfl, hcn, hmN, hAN, hcN⟩ := rvd_ints (rvd_d g1)
  have hz : ∀ {α : Type} {A : Option Addr} {l : List α}, (l ≠ [] → ∃ a, A = some a) → A = none → l.length = 0 := fun {α A l} h e => by
   cases l with
   | nil => rfl
   | cons x r => obtain ⟨a, ha⟩ := h (by simp); rw [e] at ha; cases ha
  refine (YtfgcpmeadeehhaaGreat.kt.up_any AN AE g.nodes.length cn g.edges.length ce g.nodes g.edges w (by omega) (by omega) rfl rfl (hz hAN) (hz hAE) (fun a ha j hj => hcN a ha j hj) (fun a ha j u hj => ?_) (fun k hk => ?_)).mono ?_
  ·have hjl : j < g.edges.length * 3 := by
    rw [← flatE_len]
    exact (List.getElem?_eq_some_iff.1 hj).1
   have e1 : j = j / 3 * 3 + j % 3 := by omega
   have h3 := hcE a ha (j / 3) (by omega)
   rw [e1, flatE_get _ _ _ (by omega) (by omega)] at hj
   rw [e1]
   have h5 : j % 3 = 0 ∨ j % 3 = 1 ∨ j % 3 = 2 := by omega
   generalize j % 3 = q at *
   rcases h5 with rfl | rfl | rfl
   ·simp at hj; subst hj; simpa using h3.1
   ·simp at hj; subst hj; simpa using h3.2.1
   ·simp at hj; subst hj; simpa using h3.2.2
  ·have := hi.n _ (getD_mem (d := 0) hk)
   exact wrap_in (by omega) (by omega)
  ·rintro e w' ⟨u1, u2, rfl, o1, o2, hb⟩
   rw [YtfgcpmeadeehhaaGreat.kt.upK_all] at o1
   have hl : (g.nodes.map fun a => a + 1).length = g.nodes.length := by simp
   have r1 : RVd w'.cell? G.ps (ints (g.nodes.map fun a => a + 1)) u1 := rvd_owns hm (by rw [hl]; exact o1)
   exact ⟨_, _, _, G, rfl, ⟨rfl, rfl⟩, rfl, relM_below hm hb, agg2_of (.d r1) (.d (rvd_ownE hm o2)) (owns_one o1) (owns_one o2), le_below hm hb, fun k hk => ⟨hk, rfl⟩⟩
end Go.AM
namespace Go.AM
open Go Go.Proofs
theorem getD_post {α : Type} {r t : List α} {d : α} {j : Nat} (h : r.length ≤ j) : (r ++ t).getD j d = t.getD (j - r.length) d := by
 rw [List.getD_eq_getElem?_getD, List.getElem?_append_right h, ← List.getD_eq_getElem?_getD]
abbrev plusG (l : Gr) (T : List Int) (y : E) : Gr := ⟨l.nodes ++ T, l.edges ++ [y]⟩
theorem plus_pre {l x g : Gr} {T : List Int} {y : E} (hx : x = plusG l T y) {q m : Mo} (hq : Emb x g q) (ht : thenM (idM l) q = m) :
  m.nodes = q.nodes.take l.nodes.length ∧ m.edges = q.edges.take l.edges.length ∧ q.nodes.length = l.nodes.length + T.length ∧ q.edges.length = l.edges.length + 1 := by
 have v := hq.vm
 have h1 := v.ln
 have h2 := v.le
 rw [hx] at h1 h2
 simp only [List.length_append, List.length_singleton] at h1 h2
 have h3 := thenM_id (a := l) (n := q) (by omega) (by omega)
 rw [ht] at h3
 subst h3
 exact ⟨rfl, rfl, h1, h2⟩
theorem ext_dang {l x g : Gr} {keep : Mo} {T : List Int} {y : E} (hx : x = plusG l T y) {q m : Mo} (hq : Emb x g q) (ht : thenM (idM l) q = m) {i : Nat} (hi : i < l.nodes.length) (hk : (i : Int) ∉ keep.nodes) (hy : y.fr = i ∨ y.to = i) :
  dangI g keep m g.edges.length ≠ [] := by
 obtain ⟨m1, m2, q1, q2⟩ := plus_pre hx hq ht
 have v := hq.vm
 have hn : l.edges.length < q.edges.length := by omega
 have hel := List.getElem_mem hn
 obtain ⟨r1, r2⟩ := v.e _ hel
 have hget : q.edges.getD l.edges.length 0 = q.edges[l.edges.length] := by rw [List.getD_eq_getElem?_getD, List.getElem?_eq_getElem hn]; rfl
 have het := v.et l.edges.length (by rw [hx]; simp)
 have hyl : x.edges.getD l.edges.length default = y := by rw [hx]; simp
 rw [hyl, hget] at het
 have hne : q.edges[l.edges.length] ∉ m.edges := by
  rw [m2]
  intro hmem
  obtain ⟨j, hj, e⟩ := List.getElem_of_mem hmem
  rw [List.getElem_take] at e
  have hj2 : j < l.edges.length := by rw [List.length_take] at hj; omega
  have hjq : j < q.edges.length := by omega
  have := getD_inj hq.e hjq hn (by rw [List.getD_eq_getElem?_getD, List.getD_eq_getElem?_getD, List.getElem?_eq_getElem hjq, List.getElem?_eq_getElem hn, e])
  omega
 have hgi : q.nodes.getD i 0 ∈ goneI m.nodes keep.nodes := by
  refine goneI_mem.2 ⟨i, by rw [m1, List.length_take]; omega, hk, ?_⟩
  rw [m1, List.getD_eq_getElem?_getD, List.getElem?_take, if_pos hi, ← List.getD_eq_getElem?_getD]
 generalize q.edges[l.edges.length] = c at *
 have hc : ((c.toNat : Nat) : Int) = c := by omega
 have hd : dangP g keep m c.toNat = true := by
  unfold dangP
  rw [het, hc]
  simp only [decide_eq_true_eq]
  refine ⟨hne, ?_⟩
  rcases hy with e | e
  ·left; rw [e]; simpa using hgi
  ·right; rw [e]; simpa using hgi
 intro h0
 have : ((c.toNat : Nat) : Int) ∈ dangI g keep m g.edges.length := by
  unfold dangI
  exact List.mem_map.2 ⟨c.toNat, List.mem_filter.2 ⟨List.mem_range.2 (by omega), hd⟩, rfl⟩
 rw [h0] at this
 simp at this
theorem plus_emb {l g : Gr} {m : Mo} (he : Emb l g m) {T V : List Int} {y : E} {a : Nat} (hxv : validG (plusG l T y) = 0) (hTV : V.length = T.length) (hV : ∀ v ∈ V, 0 ≤ v ∧ v < g.nodes.length) (hty : ∀ k, k < T.length → g.nodes.getD (V.getD k 0).toNat 0 = T.getD k 0)
  (hnd : (m.nodes ++ V).Nodup) (ha : a < g.edges.length) (hna : (a : Int) ∉ m.edges) (hy : g.edges.getD a default = ⟨y.ty, (m.nodes ++ V).getD y.fr.toNat 0, (m.nodes ++ V).getD y.to.toNat 0⟩) :
  Emb (plusG l T y) g ⟨m.nodes ++ V, m.edges ++ [(a : Int)]⟩ ∧ thenM (idM l) ⟨m.nodes ++ V, m.edges ++ [(a : Int)]⟩ = m := by
 have v := he.vm
 have hlv := validG_edges v.va
 refine ⟨⟨validM_of ⟨hxv, v.vb, by simp [v.ln, hTV], by simp [v.le], fun x hx => ?_, fun x hx => ?_, fun i hi => ?_, fun i hi => ?_⟩, hnd, ?_⟩, ?_⟩
 ·rcases List.mem_append.1 hx with hx | hx
  ·exact v.n x hx
  ·exact hV x hx
 ·rcases List.mem_append.1 hx with hx | hx
  ·exact v.e x hx
  ·simp at hx; omega
 ·simp only [List.length_append] at hi
  by_cases h : i < l.nodes.length
  ·have := v.nt i h
   show g.nodes.getD ((m.nodes ++ V).getD i 0).toNat 0 = (l.nodes ++ T).getD i 0
   rw [getD_pre (by rw [v.ln]; exact h), getD_pre h]
   exact this
  ·have := hty (i - l.nodes.length) (by omega)
   show g.nodes.getD ((m.nodes ++ V).getD i 0).toNat 0 = (l.nodes ++ T).getD i 0
   rw [getD_post (by rw [v.ln]; omega), getD_post (by omega), v.ln]
   exact this
 ·simp only [List.length_append, List.length_singleton] at hi
  by_cases h : i < l.edges.length
  ·have h1 := v.et i h
   have hme := List.getElem_mem h
   obtain ⟨b1, b2, b3, b4⟩ := hlv _ hme
   have hgl : l.edges.getD i default = l.edges[i] := by rw [List.getD_eq_getElem?_getD, List.getElem?_eq_getElem h]; rfl
   have hgp : (l.edges ++ [y]).getD i default = l.edges[i] := by rw [List.getD_eq_getElem?_getD, List.getElem?_append_left h, List.getElem?_eq_getElem h]; rfl
   have hme2 : (m.edges ++ [(a : Int)]).getD i 0 = m.edges.getD i 0 := by rw [List.getD_eq_getElem?_getD, List.getElem?_append_left (by rw [v.le]; exact h), ← List.getD_eq_getElem?_getD]
   have hn1 : ∀ k : Int, 0 ≤ k → k < l.nodes.length → (m.nodes ++ V).getD k.toNat 0 = m.nodes.getD k.toNat 0 := fun k h0 h1 => by
    rw [List.getD_eq_getElem?_getD, List.getElem?_append_left (by rw [v.ln]; omega), ← List.getD_eq_getElem?_getD]
   simp only [hgp, hme2, hn1 _ b1 b2, hn1 _ b3 b4]
   rw [hgl] at h1
   exact h1
  ·have hie : i = l.edges.length := by omega
   subst hie
   have h1 : (m.edges ++ [(a : Int)]).getD l.edges.length 0 = a := by rw [← v.le]; simp
   have h2 : (l.edges ++ [y]).getD l.edges.length default = y := by simp
   simp only [h1, h2, Int.toNat_natCast]
   exact hy
 ·rw [List.nodup_append]
  exact ⟨he.e, by simp, fun x hx z hz e => by simp at hz; subst hz; subst e; exact hna hx⟩
 ·rw [thenM_id (by simp [v.ln]) (by simp [v.le])]
  simp only
  rw [List.take_append_of_le_length (by rw [v.ln]; exact Nat.le_refl _), List.take_append_of_le_length (by rw [v.le]; exact Nat.le_refl _), List.take_of_length_le (by rw [v.ln]; exact Nat.le_refl _), List.take_of_length_le (by rw [v.le]; exact Nat.le_refl _)]
structure FreeT (t : Ty) : Prop where
 fit : ∀ (k a b : Int), 0 ≤ k → k < t.edges.length → 0 ≤ a → a < t.nodes.length → 0 ≤ b → b < t.nodes.length → fitB t k a b = true
structure InT (t : Ty) (g : Gr) : Prop where
 n : ∀ a ∈ g.nodes, 0 ≤ a ∧ a < t.nodes.length ∧ leafB t a = true
 e : ∀ x ∈ g.edges, 0 ≤ x.ty ∧ x.ty < t.edges.length
theorem addL_in {t : Ty} (ht : FreeT t) {l : Gr} {i k j : Int} {out : Bool} {ns : List Int} (hns : ∀ a ∈ ns, 0 ≤ a ∧ a < t.nodes.length) (h0 : 0 ≤ k) (hk : k < t.edges.length) (hi : 0 ≤ i ∧ i < ns.length) (hj : 0 ≤ j ∧ j < ns.length) :
  addL t l i k out j ns = [⟨ns, l.edges ++ [addX i k j out]⟩] := by
 have hg : ∀ b : Int, 0 ≤ b ∧ b < ns.length → 0 ≤ ns.getD b.toNat 0 ∧ ns.getD b.toNat 0 < t.nodes.length := fun b hb => by
  have hl : b.toNat < ns.length := by omega
  rw [List.getD_eq_getElem?_getD, List.getElem?_eq_getElem hl]
  exact hns _ (List.getElem_mem hl)
 unfold addL
 have a1 : 0 ≤ (addX i k j out).fr ∧ (addX i k j out).fr < ns.length := by unfold addX; split <;> assumption
 have a2 : 0 ≤ (addX i k j out).to ∧ (addX i k j out).to < ns.length := by unfold addX; split <;> assumption
 rw [if_pos (ht.fit _ _ _ h0 hk (hg _ a1).1 (hg _ a1).2 (hg _ a2).1 (hg _ a2).2)]
theorem mem_lrgY {t : Ty} {l x : Gr} {i k : Int} {out : Bool} (h : x ∈ lrgL t l i k out) : ∃ T y, x = plusG l T y ∧ y.ty = k ∧ (y.fr = i ∨ y.to = i) := by
 have key : ∀ j ns T, ns = l.nodes ++ T → x ∈ addL t l i k out j ns → ∃ T y, x = plusG l T y ∧ y.ty = k ∧ (y.fr = i ∨ y.to = i) := by
  intro j ns T hT hx
  unfold addL at hx
  split at hx
  ·simp only [List.mem_singleton] at hx
   refine ⟨T, addX i k j out, by rw [hx, hT], ?_, ?_⟩
   ·unfold addX; split <;> rfl
   ·unfold addX; split
    ·exact .inl rfl
    ·exact .inr rfl
  ·simp at hx
 unfold lrgL at h
 rcases List.mem_append.1 h with h | h
 ·obtain ⟨j, _, hx⟩ := mem_flatN.1 h
  unfold lrA at hx
  split at hx
  ·exact key j _ [] (by simp) hx
  ·simp at hx
 ·obtain ⟨c, _, hx⟩ := mem_flatN.1 h
  unfold lrB at hx
  split at hx
  ·exact key _ _ [(c : Int)] rfl hx
  ·simp at hx
theorem mem_appL {t : Ty} {r : Ru} {x : Gr} : x ∈ appL t r ↔ ∃ i, i < r.lg.nodes.length ∧ (i : Int) ∉ r.k.nodes ∧ ∃ k, k < t.edges.length ∧ (x ∈ lrgL t r.lg i k true ∨ x ∈ lrgL t r.lg i k false) := by
 unfold appL
 rw [mem_flatN]
 constructor
 ·rintro ⟨i, hi, hx⟩
  unfold appI at hx
  split at hx
  ·simp at hx
  ·rename_i hk
   obtain ⟨k, hk2, hx⟩ := mem_flatN.1 hx
   exact ⟨i, hi, hk, k, hk2, List.mem_append.1 hx⟩
 ·rintro ⟨i, hi, hk, k, hk2, hx⟩
  refine ⟨i, hi, ?_⟩
  unfold appI
  rw [if_neg hk]
  exact mem_flatN.2 ⟨k, hk2, List.mem_append.2 hx⟩
theorem app_dang {t : Ty} (ht : FreeT t) {r : Ru} {g : Gr} {m : Mo} (he : Emb r.lg g m) (hl : InT t r.lg) (hg : InT t g) (hbad : ∀ x ∈ appL t r, validG x = 0) :
  (∀ x ∈ appL t r, ¬ ∃ q, Emb x g q ∧ thenM (idM r.lg) q = m) ↔ dangI g r.k m g.edges.length = [] := by
 constructor
 ·intro h
  by_cases h0 : dangI g r.k m g.edges.length = []
  ·exact h0
  ·exfalso
   obtain ⟨c, hc⟩ := List.exists_mem_of_ne_nil _ h0
   unfold dangI at hc
   obtain ⟨a, ha, rfl⟩ := List.mem_map.1 hc
   obtain ⟨ha1, ha2⟩ := List.mem_filter.1 ha
   have hal := List.mem_range.1 ha1
   unfold dangP at ha2
   simp only [decide_eq_true_eq] at ha2
   obtain ⟨hna, hgn⟩ := ha2
   have v := he.vm
   have hge : g.edges.getD a default = g.edges[a] := by rw [List.getD_eq_getElem?_getD, List.getElem?_eq_getElem hal]; rfl
   rw [hge] at hgn
   have hme := List.getElem_mem hal
   obtain ⟨b1, b2, b3, b4⟩ := validG_edges v.vb _ hme
   obtain ⟨t1, t2⟩ := hg.e _ hme
   have hnl : ∀ b ∈ r.lg.nodes, 0 ≤ b ∧ b < t.nodes.length := fun b hb => ⟨(hl.n b hb).1, (hl.n b hb).2.1⟩
   have hgetm : ∀ j : Nat, j < r.lg.nodes.length → (m.nodes.getD j 0) ∈ m.nodes := fun j hj => by
    have : j < m.nodes.length := by rw [v.ln]; exact hj
    rw [List.getD_eq_getElem?_getD, List.getElem?_eq_getElem this]
    exact List.getElem_mem this
   -- a deleted node at one end, anything at the other
   have key : ∀ (out : Bool) (i : Nat) (o : Int), i < m.nodes.length → (i : Int) ∉ r.k.nodes → (0 ≤ o ∧ o < g.nodes.length) → g.edges[a] = (if out = true then ⟨g.edges[a].ty, m.nodes.getD i 0, o⟩ else ⟨g.edges[a].ty, o, m.nodes.getD i 0⟩) →
     (out = false → o ≠ m.nodes.getD i 0) → False := by
    intro out i o hi hik ho hee hoo
    have hi2 : i < r.lg.nodes.length := by rw [← v.ln]; exact hi
    by_cases hom : o ∈ m.nodes
    ·obtain ⟨j, hj, hje⟩ := List.getElem_of_mem hom
     have hj2 : j < r.lg.nodes.length := by rw [← v.ln]; exact hj
     have hjg : m.nodes.getD j 0 = o := by rw [List.getD_eq_getElem?_getD, List.getElem?_eq_getElem hj]; exact hje
     have hin : plusG r.lg [] (addX i g.edges[a].ty j out) ∈ appL t r := by
      refine mem_appL.2 ⟨i, hi2, hik, g.edges[a].ty.toNat, by omega, ?_⟩
      have hk : ((g.edges[a].ty.toNat : Nat) : Int) = g.edges[a].ty := by omega
      rw [hk]
      have : plusG r.lg [] (addX i g.edges[a].ty j out) ∈ lrgL t r.lg i g.edges[a].ty out := by
       refine List.mem_append.2 (.inl (mem_flatN.2 ⟨j, hj2, ?_⟩))
       have hc : (out || ((j : Int) != (i : Int))) = true := by
        cases out with
        | true => rfl
        | false =>
         have : j ≠ i := fun e => hoo rfl (by rw [← hjg, e])
         simp only [Bool.false_or, bne_iff_ne, ne_eq]
         omega
       unfold lrA
       rw [if_pos hc, addL_in ht hnl t1 t2 ⟨by omega, by omega⟩ ⟨by omega, by omega⟩]
       simp
      cases out with
      | true => exact .inl this
      | false => exact .inr this
     refine h _ hin ⟨_, plus_emb he (V := []) (hbad _ hin) rfl (by simp) (by simp) (by rw [List.append_nil]; exact he.n) hal hna ?_⟩
     rw [hge, hee]
     unfold addX
     cases out <;> simp <;> rw [← hjg, List.getD_eq_getElem?_getD]
    ·have hon : o.toNat < g.nodes.length := by omega
     have hog : g.nodes.getD o.toNat 0 = g.nodes[o.toNat] := by rw [List.getD_eq_getElem?_getD, List.getElem?_eq_getElem hon]; rfl
     obtain ⟨n1, n2, n3⟩ := hg.n _ (List.getElem_mem hon)
     have hin : plusG r.lg [g.nodes[o.toNat]] (addX i g.edges[a].ty r.lg.nodes.length out) ∈ appL t r := by
      refine mem_appL.2 ⟨i, hi2, hik, g.edges[a].ty.toNat, by omega, ?_⟩
      have hk : ((g.edges[a].ty.toNat : Nat) : Int) = g.edges[a].ty := by omega
      rw [hk]
      have : plusG r.lg [g.nodes[o.toNat]] (addX i g.edges[a].ty r.lg.nodes.length out) ∈ lrgL t r.lg i g.edges[a].ty out := by
       refine List.mem_append.2 (.inr (mem_flatN.2 ⟨g.nodes[o.toNat].toNat, by omega, ?_⟩))
       have hc : ((g.nodes[o.toNat].toNat : Nat) : Int) = g.nodes[o.toNat] := by omega
       unfold lrB
       rw [hc, if_pos n3, addL_in ht (fun b hb => by
        rcases List.mem_append.1 hb with hb | hb
        ·exact hnl b hb
        ·simp at hb; subst hb; exact ⟨n1, n2⟩) t1 t2 ⟨by omega, by simp; omega⟩ ⟨by omega, by simp; omega⟩]
       simp
      cases out with
      | true => exact .inl this
      | false => exact .inr this
     have hlast : (m.nodes ++ [o]).getD r.lg.nodes.length 0 = o := by rw [← v.ln]; simp
     have hfirst : (m.nodes ++ [o]).getD i 0 = m.nodes.getD i 0 := by rw [List.getD_eq_getElem?_getD, List.getElem?_append_left hi, ← List.getD_eq_getElem?_getD]
     refine h _ hin ⟨_, plus_emb he (V := [o]) (hbad _ hin) rfl (fun z hz => by simp at hz; subst hz; exact ho) (fun k hk => ?_) ?_ hal hna ?_⟩
     ·have : k = 0 := by simp at hk; exact hk
      subst this
      simp only [List.getD_cons_zero]
      exact hog
     ·rw [List.nodup_append]
      exact ⟨he.n, by simp, fun x hx z hz e => by simp at hz; subst hz; subst e; exact hom hx⟩
     ·rw [hge, hee]
      unfold addX
      cases out
      ·simp only [Bool.false_eq_true, if_false, Int.toNat_natCast, hlast, hfirst]
      ·simp only [if_true, Int.toNat_natCast, hlast, hfirst]
   by_cases hfr : g.edges[a].fr ∈ goneI m.nodes r.k.nodes
   ·obtain ⟨i, hi, hik, hig⟩ := goneI_mem.1 hfr
    exact key true i g.edges[a].to hi hik ⟨b3, b4⟩ (by rw [if_pos rfl, hig]) (fun h => by cases h)
   ·rcases hgn with h1 | h1
    ·exact hfr h1
    ·obtain ⟨i, hi, hik, hig⟩ := goneI_mem.1 h1
     exact key false i g.edges[a].fr hi hik ⟨b1, b2⟩ (by rw [if_neg (by decide), hig]) (fun _ e => hfr (by rw [e, hig]; exact h1))
 ·intro h x hx
  obtain ⟨i, hi, hik, k, hk, hxx⟩ := mem_appL.1 hx
  obtain ⟨T, y, he1, he2, he3⟩ : ∃ T y, x = plusG r.lg T y ∧ y.ty = (k : Int) ∧ (y.fr = (i : Int) ∨ y.to = (i : Int)) := by
   rcases hxx with hxx | hxx
   ·exact mem_lrgY hxx
   ·exact mem_lrgY hxx
  rintro ⟨q, hq, ht2⟩
  exact ext_dang he1 hq ht2 hi hik he3 h
end Go.AM
namespace Go.AM
open Go Go.Proofs
theorem thr_fit2 : ∀ k ∈ [(0 : Int), 1], ∀ a ∈ [(0 : Int), 1, 2, 3], ∀ b ∈ [(0 : Int), 1, 2, 3], fitB thrT k a b = true := by decide +kernel
theorem thr_n : thrT.nodes.length = 4 := rfl
theorem thr_e : thrT.edges.length = 2 := rfl
theorem thr_free : FreeT thrT := ⟨fun k a b k0 k1 a0 a1 b0 b1 => by
 rw [thr_n] at a1 b1
 rw [thr_e] at k1
 refine thr_fit2 k ?_ a ?_ b ?_
 ·have : k = 0 ∨ k = 1 := by omega
  simp only [List.mem_cons, List.not_mem_nil, or_false]; exact this
 ·have : a = 0 ∨ a = 1 ∨ a = 2 ∨ a = 3 := by omega
  simp only [List.mem_cons, List.not_mem_nil, or_false]; exact this
 ·have : b = 0 ∨ b = 1 ∨ b = 2 ∨ b = 3 := by omega
  simp only [List.mem_cons, List.not_mem_nil, or_false]; exact this⟩
theorem thr_leaf : ∀ a ∈ [(1 : Int), 2, 3], leafB thrT a = true := by decide +kernel
theorem upG_thr {g : Gr} (h : InK g) : InT thrT (upG g) := by
 refine ⟨fun x hx => ?_, fun e he => ?_⟩
 ·simp only [upG, List.mem_map] at hx
  obtain ⟨a, ha, rfl⟩ := hx
  have h1 := h.n a ha
  rw [thr_n]
  refine ⟨by omega, by omega, thr_leaf _ ?_⟩
  have : a + 1 = 1 ∨ a + 1 = 2 ∨ a + 1 = 3 := by omega
  simp only [List.mem_cons, List.not_mem_nil, or_false]; exact this
 ·rw [thr_e]
  have := h.e e he
  omega
theorem thr_tpA : firstE (tpA thrT) thrT.nodes.length = 0 := by decide +kernel
theorem lvs_in {t : Ty} (ht : FreeT t) {g : Gr} (hv : validG g = 0) (h : InT t g) : lvsB t g = true := by
 have h1 : allP (lvN t) g.nodes = true := by
  unfold allP
  rw [List.all_eq_true]
  intro a ha
  obtain ⟨a0, a1, a2⟩ := h.n a ha
  unfold lvN
  rw [if_neg (by omega)]
  exact a2
 unfold lvsB
 rw [if_pos h1]
 unfold allP
 rw [List.all_eq_true]
 intro e he
 obtain ⟨b1, b2, b3, b4⟩ := validG_edges hv e he
 obtain ⟨t1, t2⟩ := h.e e he
 have n1 := h.n (g.nodes.getD e.fr.toNat 0) (getD_mem (by omega))
 have n2 := h.n (g.nodes.getD e.to.toNat 0) (getD_mem (by omega))
 exact ht.fit _ _ _ t1 t2 n1.1 n1.2.1 n2.1 n2.2.1
theorem lrg_valid {t : Ty} {l x : Gr} {i k : Int} {out : Bool} (hv : validG l = 0) (hn : l.nodes.length < 40) (he : l.edges.length < 80) (ht : t.nodes.length ≤ 12) (h0 : 0 ≤ k ∧ k ≤ 99) (hi : 0 ≤ i ∧ i < l.nodes.length) (h : x ∈ lrgL t l i k out) : validG x = 0 := by
 have key : ∀ (j : Int) ns, validG ⟨ns, l.edges⟩ = 0 → l.nodes.length ≤ ns.length → 0 ≤ j ∧ j < ns.length → x ∈ addL t l i k out j ns → validG x = 0 := by
  intro j ns hw hl hj hx
  unfold addL at hx
  split at hx
  ·simp only [List.mem_singleton] at hx
   subst hx
   refine (pre_edge hw he ?_).vb
   rw [fitsB_iff]
   unfold addX
   split
   ·exact ⟨within_of h0.1 h0.2, by simp only; omega, by simp only; omega⟩
   ·exact ⟨within_of h0.1 h0.2, by simp only; omega, by simp only; omega⟩
  ·simp at hx
 unfold lrgL at h
 rcases List.mem_append.1 h with h | h
 ·obtain ⟨j, hj, hx⟩ := mem_flatN.1 h
  unfold lrA at hx
  split at hx
  ·exact key j _ hv (Nat.le_refl _) (by omega) hx
  ·simp at hx
 ·obtain ⟨c, hc, hx⟩ := mem_flatN.1 h
  unfold lrB at hx
  split at hx
  ·exact key _ _ (pre_node hv hn (by omega)).vb (by simp) (by simp; omega) hx
  ·simp at hx
theorem cntL_ex (l : Gr) : ∀ L : List Gr, Cd.cntL (L.map (exX l)) = 3 * L.length
 | [] => by simp [Cd.cntL]
 | x :: r => by
  have h : (exX l x).cnt = 3 := by simp [exX, cdOf, Cd.cnt, Cd.cntL]
  simp only [List.map_cons, Cd.cntL, cntL_ex l r, List.length_cons, h]
  omega
theorem depL_ex (l : Gr) : ∀ L : List Gr, Cd.depL (L.map (exX l)) ≤ 1
 | [] => by simp [Cd.depL]
 | x :: r => by
  have h : (exX l x).dep = 1 := by simp [exX, cdOf, Cd.dep, Cd.depL]
  have := depL_ex l r
  simp only [List.map_cons, Cd.depL, h]
  omega
theorem exX_hol {l g x : Gr} {m : Mo} (hx : Emb l x (idM l)) (hm : Emb l g m) : (exX l x).hol g m = true ↔ ¬ ∃ q, Emb x g q ∧ thenM (idM l) q = m := by
 have h2 := exists_iff hx hm (fun _ => true)
 have h3 : ∀ q : Mo, ((cdOf 1 []).hol g q) = true := fun q => by rw [Cd.hol_eq]; rfl
 have e : (Cd.mk 5 [cdOf 1 []] (idM l) x [] 0 []).hol g m = nodeB x g (fun _ => true) (imgK x.edges.length (idM l).edges m.edges (idM l).edges.length) x.nodes.length (imgK x.nodes.length (idM l).nodes m.nodes (idM l).nodes.length) := by
  rw [Cd.hol_eq]
  have : (fun q => ([cdOf 1 []].map fun y => Cd.hol y g q).headD false) = fun _ : Mo => true := by
   funext q
   simp [h3 q]
  show nodeB x g (fun q => ([cdOf 1 []].map fun y => Cd.hol y g q).headD false) _ _ _ = _
  rw [this]
  rfl
 rw [exX, Cd.hol_eq]
 show (!(([Cd.mk 5 [cdOf 1 []] (idM l) x [] 0 []].map fun y => Cd.hol y g m).headD false)) = true ↔ _
 simp only [List.map_cons, List.headD_cons, Bool.not_eq_true', e]
 rw [← Bool.not_eq_true, h2]
 simp
theorem appC_hol {t : Ty} {r : Ru} {g : Gr} {m : Mo} (hm : Emb r.lg g m) (hx : ∀ x ∈ appL t r, Emb r.lg x (idM r.lg)) : (appC t r).hol g m = true ↔ ∀ x ∈ appL t r, ¬ ∃ q, Emb x g q ∧ thenM (idM r.lg) q = m := by
 rw [appC, Cd.hol_eq]
 show ((((appL t r).map (exX r.lg)).map fun y => Cd.hol y g m).all id) = true ↔ _
 rw [List.all_eq_true]
 simp only [List.map_map, List.mem_map, Function.comp, id]
 constructor
 ·intro h x hxm
  exact (exX_hol (hx x hxm) hm).1 (h _ ⟨x, hxm, rfl⟩)
 ·rintro h b ⟨x, hxm, rfl⟩
  exact (exX_hol (hx x hxm) hm).2 (h x hxm)
theorem dang_law {r : Ru} {g : Gr} {m : Mo} (hs : strR r = 0) (he : Emb r.lg g m) (hl : InT thrT r.lg) (hr : InT thrT r.rg) (hg : InT thrT g) (h3 : r.lg.nodes.length ≤ 3) (h4 : r.lg.edges.length ≤ 3) :
  (appR thrT r).2 = 0 ∧ satR r.lg (appR thrT r).1 g m = (decide ((dangI g r.k m g.edges.length).length = 0), 0) := by
 obtain ⟨v1, v2⟩ := strR_valid hs
 have ht : tpdE thrT r = 0 := by
  unfold tpdE tpB
  rw [if_neg (by simp [thr_err]), if_neg (by simp [hs]), if_neg (by simp [thr_tpA]), if_neg (by simp [lvs_in thr_free v1 hl]), if_neg (by simp [lvs_in thr_free v2 hr])]
 have hval : ∀ x ∈ appL thrT r, validG x = 0 := fun x hx => by
  obtain ⟨i, hi, _, k, hk, hx⟩ := mem_appL.1 hx
  rw [thr_e] at hk
  rcases hx with hx | hx
  ·exact lrg_valid v1 (by omega) (by omega) (by rw [thr_n]; decide) ⟨by omega, by omega⟩ ⟨by omega, by omega⟩ hx
  ·exact lrg_valid v1 (by omega) (by omega) (by rw [thr_n]; decide) ⟨by omega, by omega⟩ ⟨by omega, by omega⟩ hx
 have hbad : anyB badG (appL thrT r) = false := by
  unfold anyB
  rw [List.any_eq_false]
  intro x hx
  simp [badG, hval x hx]
 have hemb : ∀ x ∈ appL thrT r, Emb r.lg x (idM r.lg) := fun x hx => by
  obtain ⟨i, hi, _, k, hk, hxx⟩ := mem_appL.1 hx
  obtain ⟨T, y, e1, _, _⟩ : ∃ T y, x = plusG r.lg T y ∧ y.ty = (k : Int) ∧ (y.fr = (i : Int) ∨ y.to = (i : Int)) := by
   rcases hxx with hxx | hxx
   ·exact mem_lrgY hxx
   ·exact mem_lrgY hxx
  have hvx := hval x hx
  subst e1
  exact (Pre.mk v1 hvx ⟨T, rfl⟩ ⟨[y], rfl⟩).emb
 have hda := app_dang thr_free he hl hg hval
 have hlen : (appL thrT r).length ≤ 84 := by
  have h5 : ∀ i k, (appE thrT r.lg i k).length ≤ 14 := fun i k => by
   have a1 := lrgL_len thrT r.lg i k true
   have a2 := lrgL_len thrT r.lg i k false
   rw [thr_n] at a1 a2
   rw [appE, List.length_append]
   omega
  have h6 : ∀ i, (appI thrT r.lg r.k.nodes i).length ≤ 28 := fun i => by
   unfold appI
   split
   ·simp
   ·have := flatN_le (f := appE thrT r.lg i) (h5 i) thrT.edges.length
    rw [thr_e] at this ⊢
    omega
  have h7 := flatN_le h6 r.lg.nodes.length
  have h8 : r.lg.nodes.length * 28 ≤ 3 * 28 := Nat.mul_le_mul_right _ h3
  rw [appL]
  omega
 have hdec : ∀ b : Bool, (b = true ↔ dangI g r.k m g.edges.length = []) → b = decide ((dangI g r.k m g.edges.length).length = 0) := fun b h => by
  rw [Bool.eq_iff_iff, decide_eq_true_eq, h, List.length_eq_zero_iff]
 unfold appR
 rw [if_neg (by simp [ht]), if_neg (by simp [hbad])]
 by_cases h0 : (appL thrT r).length = 0
 ·rw [if_pos h0]
  have hok : MkOk r.lg 0 1 trueC := trueC_ok (by decide)
  refine ⟨rfl, ?_⟩
  show satR r.lg trueC g m = _
  rw [sat_emb he (hok.valid v1 (by decide) (by decide))]
  refine congrArg (·, (0 : Int)) (hdec _ ?_)
  rw [← hda]
  have : appL thrT r = [] := List.length_eq_zero_iff.1 h0
  rw [this, Cd.hol_eq]
  simp [trueC, cdOf, Cd.kind, holStep]
 ·rw [if_neg h0]
  have hvc : validC r.lg (appC thrT r) = 0 := by
   rw [(appC_valid v1 hbad h0).1]
   have h1 : (appC thrT r).cnt = 1 + 3 * (appL thrT r).length := by rw [Cd.cnt_eq]; show 1 + Cd.cntL ((appL thrT r).map (exX r.lg)) = _; rw [cntL_ex]
   have h2 : (appC thrT r).dep ≤ 1 := by
    rw [Cd.dep_eq]
    have := depL_ex r.lg (appL thrT r)
    have e : (appC thrT r).kind = 3 := rfl
    rw [e, if_neg (by decide)]
    exact this
   rw [smallC, Cd.meas_cnt _ (by omega)]
   simp only
   rw [if_neg (by omega)]
  rw [if_neg (by simp [hvc])]
  refine ⟨rfl, ?_⟩
  rw [sat_emb he hvc]
  refine congrArg (·, (0 : Int)) (hdec _ ?_)
  rw [← hda]
  exact appC_hol he hemb
end Go.AM
namespace Go.AM
open Go Go.ChangeShapes
variable {P : Program}
def Rd (w : World) (cs : List Value) (ds : List D) : Prop := cs.length = ds.length ∧ ∀ i (h1 : i < cs.length) (h2 : i < ds.length), RVd w.cell? (fun _ => True) ds[i] cs[i]
theorem Rd.append {w : World} {cs cs' : List Value} {ds ds' : List D} (h : Rd w cs ds) (k : Rd w cs' ds') : Rd w (cs ++ cs') (ds ++ ds') := by
 refine ⟨by simp [h.1, k.1], fun i h1 h2 => ?_⟩
 by_cases hi : i < cs.length
 ·rw [List.getElem_append_left hi, List.getElem_append_left (by rw [← h.1]; exact hi)]
  exact h.2 i hi _
 ·have hl := h.1
  rw [List.getElem_append_right (by omega), List.getElem_append_right (by omega)]
  have := k.2 (i - cs.length) (by simp at h1; omega) (by have := k.1; simp at h1; omega)
  simpa [hl] using this
theorem Rd.one {w : World} {c : Value} {d : D} (h : RVd w.cell? (fun _ => True) d c) : Rd w [c] [d] := ⟨rfl, fun i h1 h2 => by
 have : i = 0 := by simpa using h1
 subst this
 exact h⟩
def Light {H : Type} (P : Program) (T : TypeId) (d : DataW H) : Prop := (d.weights P T).all (· ≤ reachBytes) = true
structure Rdr (P : Program) (T : TypeId) (α : Type) where
 enc : α → List D
 ok : α → Prop
 len : ∀ x, (enc x).length = P.cellsOf T
 sound : ∀ {H : Type} (e : TypeId × Value → H) (w : World) (base : Nat) (spare : Nat → Bool) (held : Bool) (fuel : Nat) (cs : List Value) (x : DataW H × List MemPlace),
  DataW.trod e P w base spare held fuel T cs = some x → ∃ y, Rd w cs (enc y) ∧ (Light P T x.1 → ok y)
def Rdr.int {T : TypeId} {k : IntKind} (h : P.underlying T = some (.int k)) (hc : P.cellsOf T = 1) : Rdr P T Int where
 enc n := [.raw (.int k n)]
 ok n := (Lit.int k n).wf = true
 len _ := by simp [hc]
 sound e w base spare held fuel cs x hx := by
  cases fuel with
  | zero => simp [DataW.trod] at hx
  | succ n =>
   unfold DataW.trod at hx
   rw [h] at hx
   split at hx <;> simp_all
   rename_i k' n' _
   exact ⟨n', Rd.one (.raw rfl), fun _ => hx.1.2⟩
theorem cells_spec {w : World} {base : Nat} {a : Addr} {n : Nat} {l : List Value} (h : w.cells? base a n = some l) : l.length = n ∧ ∀ i (hi : i < l.length), w.cell? (a.add i) = some l[i] := by
 unfold World.cells? at h
 split at h
 ·have h1 : l.length = n := by have := mapM_some_length h; simpa using this
  refine ⟨h1, fun i hi => ?_⟩
  have hin : i < n := by omega
  have := mapM_some_get h i i (by simp [hin])
  rw [this]
  exact List.getElem?_eq_getElem hi
 ·cases h
theorem light_slice {H : Type} {T E : TypeId} (h : P.underlying T = some (.slice E)) {elems rest : List (DataW H)} (hl : Light P T (.slice elems rest)) : elems.length * P.bytesOf E ≤ reachBytes ∧ ∀ d ∈ elems, Light P E d := by
 unfold Light at hl ⊢
 simp only [DataW.weights, h, List.all_cons, List.all_append, Bool.and_eq_true, decide_eq_true_eq] at hl
 refine ⟨Nat.le_trans (Nat.mul_le_mul_right _ (Nat.le_add_right _ _)) hl.1, ?_⟩
 have key : ∀ l : List (DataW H), (DataW.weightsAll P E l).all (· ≤ reachBytes) = true → ∀ d ∈ l, (d.weights P E).all (· ≤ reachBytes) = true := by
  intro l
  induction l with
  | nil => intro _ d hd; simp at hd
  | cons x l ih =>
   intro hx d hd
   simp only [DataW.weightsAll, List.all_append, Bool.and_eq_true] at hx
   rcases List.mem_cons.1 hd with rfl | hd
   ·exact hx.1
   ·exact ih hx.2 d hd
 exact key elems hl.2.1
def Rdr.slice {T E : TypeId} {α : Type} (r : Rdr P E α) (h : P.underlying T = some (.slice E)) (hc : P.cellsOf T = 1) : Rdr P T (List α) where
 enc l := [.sl (P.cellsOf E) (l.map r.enc)]
 ok l := (∀ x ∈ l, r.ok x) ∧ l.length * P.bytesOf E ≤ reachBytes
 len _ := by simp [hc]
 sound e w base spare held fuel cs x hx := by
  rcases DataW.trod_slice h hx with ⟨rfl, rfl⟩ | ⟨a, len, cap, elems, rest, n, rfl, rfl, rfl, hb, hl, hm, hel, hat, _⟩
  ·exact ⟨[], Rd.one (.sl (es := []) (fun _ _ => default) (Nat.le_refl _) (by decide) (by simp) (by simp) (by simp) (by simp)), fun _ => ⟨by simp, by simp⟩⟩
  ·have key : ∀ i (hi : i < elems.length), ∃ cs y, cs.length = P.cellsOf E ∧ (∀ j (hj : j < cs.length), w.cell? (a.add (i * P.cellsOf E + j)) = some cs[j]) ∧ Rd w cs (r.enc y) ∧ (Light P E elems[i].1 → r.ok y) := by
    intro i hi
    have h1 := hat i (by omega)
    have h2 : elems[i]? = some elems[i] := List.getElem?_eq_getElem hi
    rw [h2, Option.bind_eq_some_iff] at h1
    obtain ⟨cs, hcs, htr⟩ := h1
    obtain ⟨hcl, hcc⟩ := cells_spec hcs
    obtain ⟨y, hy, hok⟩ := r.sound e w base spare held n cs _ htr
    refine ⟨cs, y, hcl, fun j hj => ?_, hy, hok⟩
    rw [← Addr.add_add]
    exact hcc j hj
   have pick : ∀ m, m ≤ elems.length → ∃ ys : List α, ys.length = m ∧ (∀ i (hi : i < ys.length) (hi2 : i < elems.length), ∃ cs, cs.length = P.cellsOf E ∧ (∀ j (hj : j < cs.length), w.cell? (a.add (i * P.cellsOf E + j)) = some cs[j]) ∧ Rd w cs (r.enc ys[i]) ∧ (Light P E elems[i].1 → r.ok ys[i])) := by
    intro m
    induction m with
    | zero => intro _; exact ⟨[], rfl, fun i hi => by simp at hi⟩
    | succ m ih =>
     intro hm'
     obtain ⟨ys, hys, hall⟩ := ih (by omega)
     obtain ⟨cs, y, g1, g2, g3, g4⟩ := key m (by omega)
     refine ⟨ys ++ [y], by simp [hys], fun i hi hi2 => ?_⟩
     by_cases him : i < ys.length
     ·rw [List.getElem_append_left him]
      exact hall i him hi2
     ·have : i = m := by simp at hi; omega
      subst this
      have e1 : (ys ++ [y])[i] = y := by
       rw [List.getElem_append_right (by omega)]
       simp
      rw [e1]
      exact ⟨cs, g1, g2, g3, g4⟩
   obtain ⟨ys, hys, hall⟩ := pick elems.length (Nat.le_refl _)
   refine ⟨ys, Rd.one ?_, fun hli => ?_⟩
   ·have hlen : len = ys.length := by omega
    subst hlen
    have hml : ys.length = (ys.map r.enc).length := by simp
    rw [hml]
    refine .sl (fun i j => (w.cell? (a.add (i * P.cellsOf E + j))).getD default) (by simpa using hl) hm (fun e he => ?_) (fun _ => ⟨a, rfl⟩) (fun a' ha' i j hi hj => ?_) (fun i j hi hj => ?_)
    ·obtain ⟨y, _, rfl⟩ := List.mem_map.1 he
     exact r.len y
    ·cases ha'
     obtain ⟨cs, g1, g2, _⟩ := hall i (by simpa using hi) (by simp at hi; omega)
     rw [g2 j (by omega)]
     exact ⟨trivial, rfl⟩
    ·obtain ⟨cs, g1, g2, g3, _⟩ := hall i (by simpa using hi) (by simp at hi; omega)
     simp only [List.getElem_map] at hj ⊢
     have hjc : j < cs.length := by rw [g3.1]; exact hj
     rw [g2 j hjc]
     exact g3.2 j hjc hj
   ·obtain ⟨w1, w2⟩ := light_slice h hli
    refine ⟨fun y hy => ?_, by simpa [hys] using w1⟩
    obtain ⟨i, hi, rfl⟩ := List.getElem_of_mem hy
    obtain ⟨_, _, _, _, h4⟩ := hall i hi (by omega)
    exact h4 (w2 _ (List.mem_map.2 ⟨_, List.getElem_mem _, rfl⟩))
def Rdr.map {T : TypeId} {α β : Type} (r : Rdr P T α) (f : α → β) (enc : β → List D) (ok : β → Prop) (he : ∀ x, enc (f x) = r.enc x) (hok : ∀ x, r.ok x → ok (f x)) (hl : ∀ y, (enc y).length = P.cellsOf T) : Rdr P T β where
 enc := enc
 ok := ok
 len := hl
 sound e w base spare held fuel cs x hx := by
  obtain ⟨y, h1, h2⟩ := r.sound e w base spare held fuel cs x hx
  exact ⟨f y, by rw [he]; exact h1, fun hl => hok y (h2 hl)⟩
def Rdr.sliceN {T E : TypeId} {α : Type} (r : Rdr P E α) (n : Nat) (h : P.underlying T = some (.slice E)) (hc : P.cellsOf T = 1) (hn : P.cellsOf E = n) : Rdr P T (List α) where
 enc l := [.sl n (l.map r.enc)]
 ok l := (∀ x ∈ l, r.ok x) ∧ l.length * P.bytesOf E ≤ reachBytes
 len _ := by simp [hc]
 sound := by
  subst hn
  exact (Rdr.slice r h hc).sound
theorem list2 {α : Type} {l : List α} (h : l.length = 2) : l = [l[0]'(by omega), l[1]'(by omega)] := by
 match l, h with
 | [p, q], _ => rfl
theorem list3 {α : Type} {l : List α} (h : l.length = 3) : l = [l[0]'(by omega), l[1]'(by omega), l[2]'(by omega)] := by
 match l, h with
 | [p, q, r], _ => rfl
def Rdr.struct2 {T A B : TypeId} {α β : Type} (r : Rdr P A α) (s : Rdr P B β) {f0 f1 : Field} (h : P.underlying T = some (.struct #[f0, f1])) (hA : f0.type = A) (hB : f1.type = B) (h0 : f0.offset = 0) (h1 : f1.offset = P.cellsOf A)
  (hc : P.cellsOf T = P.cellsOf A + P.cellsOf B) : Rdr P T (α × β) where
 enc x := r.enc x.1 ++ s.enc x.2
 ok x := r.ok x.1 ∧ s.ok x.2
 len x := by simp [r.len, s.len, hc]
 sound e w base spare held fuel cs x hx := by
  obtain ⟨xs, n, rfl, rfl, hl, hxs, hat⟩ := DataW.trod_struct h hx
  have hxs' : xs.length = 2 := hxs
  have g0 := hat 0 f0 rfl
  have g1 := hat 1 f1 rfl
  have e0 : xs[0]? = some (xs[0]'(by omega)) := List.getElem?_eq_getElem (by omega)
  have e1 : xs[1]? = some (xs[1]'(by omega)) := List.getElem?_eq_getElem (by omega)
  rw [e0, h0, hA] at g0
  rw [e1, h1, hB] at g1
  obtain ⟨y, k1, k2⟩ := r.sound e w base spare held n _ _ g0
  obtain ⟨z, m1, m2⟩ := s.sound e w base spare held n _ _ g1
  refine ⟨(y, z), ?_, fun hli => ?_⟩
  rotate_left
  ·unfold Light at hli k2 m2
   have e2 : xs = [xs[0]'(by omega), xs[1]'(by omega)] := list2 hxs'
   rw [e2] at hli
   simp only [List.map_cons, List.map_nil, DataW.weights, h, DataW.weightsEach, hA, hB, List.all_append, Bool.and_eq_true] at hli
   exact ⟨k2 hli.1, m2 hli.2.1⟩
  have hcs : cs = (cs.drop 0).take (P.cellsOf A) ++ (cs.drop (P.cellsOf A)).take (P.cellsOf B) := by
   have : (cs.drop (P.cellsOf A)).take (P.cellsOf B) = cs.drop (P.cellsOf A) := List.take_of_length_le (by simp; omega)
   rw [this, List.drop_zero, List.take_append_drop]
  rw [hcs]
  exact k1.append m1
def Rdr.struct3 {T A B C : TypeId} {α β γ : Type} (r : Rdr P A α) (s : Rdr P B β) (t : Rdr P C γ) {f0 f1 f2 : Field} (h : P.underlying T = some (.struct #[f0, f1, f2])) (hA : f0.type = A) (hB : f1.type = B) (hC : f2.type = C)
  (h0 : f0.offset = 0) (h1 : f1.offset = P.cellsOf A) (h2 : f2.offset = P.cellsOf A + P.cellsOf B) (hc : P.cellsOf T = P.cellsOf A + P.cellsOf B + P.cellsOf C) : Rdr P T (α × β × γ) where
 enc x := r.enc x.1 ++ (s.enc x.2.1 ++ t.enc x.2.2)
 ok x := r.ok x.1 ∧ s.ok x.2.1 ∧ t.ok x.2.2
 len x := by simp [r.len, s.len, t.len, hc]; omega
 sound e w base spare held fuel cs x hx := by
  obtain ⟨xs, n, rfl, rfl, hl, hxs, hat⟩ := DataW.trod_struct h hx
  have hxs' : xs.length = 3 := hxs
  have g0 := hat 0 f0 rfl
  have g1 := hat 1 f1 rfl
  have g2 := hat 2 f2 rfl
  have e0 : xs[0]? = some (xs[0]'(by omega)) := List.getElem?_eq_getElem (by omega)
  have e1 : xs[1]? = some (xs[1]'(by omega)) := List.getElem?_eq_getElem (by omega)
  have e2 : xs[2]? = some (xs[2]'(by omega)) := List.getElem?_eq_getElem (by omega)
  rw [e0, h0, hA] at g0
  rw [e1, h1, hB] at g1
  rw [e2, h2, hC] at g2
  obtain ⟨y, k1, k2⟩ := r.sound e w base spare held n _ _ g0
  obtain ⟨z, m1, m2⟩ := s.sound e w base spare held n _ _ g1
  obtain ⟨q, p1, p2⟩ := t.sound e w base spare held n _ _ g2
  refine ⟨(y, z, q), ?_, fun hli => ?_⟩
  rotate_left
  ·unfold Light at hli k2 m2 p2
   have e2 : xs = [xs[0]'(by omega), xs[1]'(by omega), xs[2]'(by omega)] := list3 hxs'
   rw [e2] at hli
   simp only [List.map_cons, List.map_nil, DataW.weights, h, DataW.weightsEach, hA, hB, hC, List.all_append, Bool.and_eq_true] at hli
   exact ⟨k2 hli.1, m2 hli.2.1, p2 hli.2.2.1⟩
  have hcs : cs = (cs.drop 0).take (P.cellsOf A) ++ ((cs.drop (P.cellsOf A)).take (P.cellsOf B) ++ (cs.drop (P.cellsOf A + P.cellsOf B)).take (P.cellsOf C)) := by
   have : (cs.drop (P.cellsOf A + P.cellsOf B)).take (P.cellsOf C) = cs.drop (P.cellsOf A + P.cellsOf B) := List.take_of_length_le (by simp; omega)
   rw [this, ← List.drop_drop, List.take_append_drop, List.drop_zero, List.take_append_drop]
  rw [hcs]
  exact k1.append (m1.append p1)
def G0 : Gh := ⟨fun _ => none, fun _ => none, fun _ => .whole, 0⟩
def m0 : AMem := ⟨fun _ => none, 0, fun _ => false, 0⟩
theorem G0_ps (a : Addr) : G0.ps a := trivial
theorem relM_start (W : World) : RelM G0 m0 W := by
 constructor
 case box => intro k rows b sz h; cases h
 case nobox => intro k _; rfl
 case inj => intro k k' b sz sz' h; cases h
 case nb => intro k _; rfl
 case nt => rfl
 case toks => intro t h; cases h
 case tokb => intro t g h; cases h
 case tinj => intro t t' g h; cases h
 case tnt => intro t x h; cases h
 case fresh => intro b _; rfl
theorem RVd.start {W : World} {d : D} {v : Value} (h : RVd W.cell? (fun _ => True) d v) : RVd W.cell? G0.ps d v := h.mono fun a u _ hc => ⟨G0_ps a, hc⟩
theorem Rdr.agg {T : TypeId} {α : Type} (r : Rdr P T α) {W : World} {base base' : Nat} {sp : Nat → Bool} {held : Bool} {H : Type} {enc : TypeId × Value → H} {v : Value} {d : DataW H} {p : List MemPlace}
  (hs : aggT P T = some true) (hv : Value.okWide P W .any base T v) (h : DataW.Trod enc P W base' sp held T v d p) (hli : Light P T d) : ∃ y, r.ok y ∧ RV G0 W (.agg ((r.enc y).map .d)) v := by
 have hcs : ∃ cs, v = .agg cs := by
  unfold aggT at hs
  unfold Value.okWide at hv
  cases hu : P.underlying T with
  | none => rw [hu] at hs; simp at hs
  | some u =>
   rw [hu] at hs hv
   cases u <;> simp at hs hv <;> exact ⟨_, hv.choose_spec.1⟩
 obtain ⟨cs, rfl⟩ := hcs
 obtain ⟨fuel, h⟩ := h
 obtain ⟨y, ⟨h1, h2⟩, hok⟩ := r.sound enc W base' sp held fuel _ _ h
 refine ⟨y, hok hli, ?_⟩
 simp only [Value.cells] at h1 h2
 have := RV.agg (G := G0) (w := W) (cs := (r.enc y).map .d) (vs := cs.toList) (by simp [h1]) (fun i g1 g2 => by
  simp only [List.getElem_map]
  exact .d (h2 i g2 (by simpa using g1)).start) (fun v hv => by
  obtain ⟨i, hi, rfl⟩ := List.getElem_of_mem hv
  exact (h2 i hi (by omega)).one)
 simpa using this
theorem Rdr.cell {T : TypeId} {α : Type} (r : Rdr P T α) {W : World} {base base' : Nat} {sp : Nat → Bool} {held : Bool} {H : Type} {enc : TypeId × Value → H} {v : Value} {d : DataW H} {p : List MemPlace} (f : α → D)
  (hs : aggT P T = some false) (hf : ∀ y, r.enc y = [f y]) (hv : Value.okWide P W .any base T v) (h : DataW.Trod enc P W base' sp held T v d p) (hli : Light P T d) : ∃ y, r.ok y ∧ RV G0 W (.d (f y)) v := by
 obtain ⟨fuel, h⟩ := h
 obtain ⟨y, ⟨h1, h2⟩, hok⟩ := r.sound enc W base' sp held fuel _ _ h
 refine ⟨y, hok hli, ?_⟩
 rw [hf] at h1
 have hcs : v.cells.toList = [v] := by
  cases v with
  | agg cs =>
   exfalso
   unfold aggT at hs
   unfold Value.okWide Cell.okWide Cell.ok at hv
   cases hu : P.underlying T with
   | none => rw [hu] at hs; simp at hs
   | some u =>
    rw [hu] at hs hv
    cases u <;> simp_all
  | _ => rfl
 have := h2 0 (by rw [h1]; simp) (by rw [hf]; simp)
 simp only [hf, List.getElem_cons_zero] at this
 have e : v.cells.toList[0]'(by rw [h1]; simp) = v := by simp [hcs]
 rw [e] at this
 exact .d this.start
theorem light_arg {H : Type} {ts : List TypeId} {ds : List (DataW H)} (hz : (DataW.weightsEach P ts ds).all (· ≤ reachBytes) = true) {j : Nat} {T : TypeId} {d : DataW H} (ht : ts[j]? = some T) (hd : ds[j]? = some d) : Light P T d :=
 List.all_eq_true.2 fun x hx => List.all_eq_true.1 hz x (DataW.weights_mem_each ht hd x hx)
theorem arg_agg {ps : Array TypeId} {args : Array Value} {W : World} {base base' : Nat} {sp : Nat → Bool} {held : Bool} {H : Type} {enc : TypeId × Value → H} (hval : ∀ (j : Nat) t v, ps[j]? = some t → args[j]? = some v → Value.okWide P W .any base t v)
  (j : Nat) (T : TypeId) (v : Value) (hp : ps[j]? = some T) (ha : args[j]? = some v) {α : Type} (r : Rdr P T α) {d : DataW H} {p : List MemPlace} (hs : aggT P T = some true) (h : DataW.Trod enc P W base' sp held T v d p) (hli : Light P T d) :
  ∃ y, r.ok y ∧ RV G0 W (.agg ((r.enc y).map .d)) v := r.agg hs (hval j T v hp ha) h hli
theorem le_old {W W' : World} {G' : Gh} (h : Le G0 W G' W') (b : Nat) (hb : b < W.heap.size) : W'.heap[b]? = W.heap[b]? := (h.whole b hb rfl).2
theorem le_kept {W W' : World} {G' : Gh} (h : Le G0 W G' W') (may : MemPlace → Prop) : W.keptBut W' may := by
 refine ⟨h.os, h.output, fun i hi => ?_⟩
 rw [le_old h i hi]
 split
 ·rename_i c t fr c' t' fr' e1 e2
  rw [e1] at e2
  cases e2
  exact ⟨rfl, rfl, rfl, fun _ _ => rfl⟩
 ·rename_i e1 e2
  rw [e1] at e2
  cases e2
  exact .inr ⟨rfl, rfl⟩
 ·rfl
theorem le_same {W W' : World} {G' : Gh} (h : Le G0 W G' W') {p : MemPlace} (hp : p.block < W.heap.size) : W.sameAt W' p := by
 cases p with
 | cell b off => exact World.cell?_of_block (w := W) (a := ⟨b, off, none⟩) (le_old h b hp)
 | map b => exact le_old h b hp
theorem trodAll_stays {H : Type} {enc : TypeId × Value → H} {W W' : World} {T : TypeId → Prop} {sp' : Nat → Bool} (K : Kids P T) (hsz : ∀ {t e : TypeId}, T t → P.underlying t = some (.slice e) → 0 < P.cellsOf e) :
  ∀ {ts : List TypeId} {vs : List Value} {ds : List (DataW H)} {ps : List MemPlace}, (∀ t ∈ ts, T t) → DataW.TrodAll enc P W 0 (fun _ => true) true ts vs ds ps → (∀ p ∈ ps, W.sameAt W' p) → (∀ p ∈ ps, sp' p.block = true) →
  DataW.TrodAll enc P W' 0 sp' true ts vs ds ps
 | [], [], [], _, _, h, _, _ => h
 | t :: ts, v :: vs, d :: ds, _, hT, ⟨p, q, ⟨n, hn⟩, h2, e⟩, h3, h4 => by
  subst e
  exact ⟨p, q, ⟨n, DataW.trod_stays K hsz (fun h => by cases h) (hT t (by simp)) hn (fun x hx => h3 x (by simp [hx])) (fun x hx => h4 x (by simp [hx]))⟩,
   trodAll_stays K hsz (fun t ht => hT t (by simp [ht])) h2 (fun x hx => h3 x (by simp [hx])) (fun x hx => h4 x (by simp [hx])), rfl⟩
theorem law_of {f : FuncId} {fn : Func} {s : ChangeSpec} {H : Type} {enc : TypeId × Value → H} {W : World} {args : Array Value} {ds : List (DataW H)} {before : List MemPlace} {avs : List AV} {tok' : Nat → Bool} {nt' : Nat}
  (hl : laidOutB P = true) (hm : mapsRowed P = true) (hz : ((List.range P.types.size).all fun t => match P.underlying t with | some (.slice e) => decide (0 < P.cellsOf e) | _ => true) = true)
  (hpar : fn.params.all (· < P.types.size) = true) {tb : TypeId} (hres : fn.resultTypes = #[tb]) (hb : P.underlying tb = some .bool)
  (hvars : s.vars = []) (hfn : s.fn H ds = { results := [.lit (.bool true)], args := ds })
  (hW : DataW.Whole enc P fn.params.toList s.vars false W args.toList ds [] before) (hr : RVs G0 W avs args.toList) (hc : DCall P f avs (fun _ => false) 0 (B true) tok' nt') :
  Calls P f args W fun e W' => ∃ v, e = .returned v ∧ s.post enc P fn false true false false W args v W' := by
 have hcall := (hc (fun _ => none) 0).2 G0 W args.toList (relM_start W) hr
 simp only [Array.toArray_toList] at hcall
 refine hcall.mono ?_
 rintro e W' ⟨v, av, m', G', rfl, ⟨rfl, rfl⟩, _, _, hv, hle, _⟩
 cases hv with
 | d hv =>
  cases hv with
  | raw =>
   refine ⟨_, rfl, ?_⟩
   have hlt := hW.lt
   have hWW := hW
   obtain ⟨p, q, hA, hV, rfl, hfz, hnd⟩ := hW
   rw [hvars] at hV
   obtain ⟨_, rfl⟩ := trodVars_none hV
   simp only [List.append_nil] at hlt hfz hWW ⊢
   have hT : ∀ t ∈ fn.params.toList, t < P.types.size := fun t ht => by
    have := Array.all_eq_true_iff_forall_mem.1 hpar t (by simpa using ht)
    simpa using this
   have hsz : ∀ {t e : TypeId}, t < P.types.size → P.underlying t = some (.slice e) → 0 < P.cellsOf e := by
    intro t e ht hu
    have := List.all_eq_true.1 hz t (List.mem_range.2 ht)
    rw [hu] at this
    simpa using this
   have hargs : ∀ sp : Nat → Bool, (∀ x ∈ p, sp x.block = true) → DataW.TrodAll enc P W' 0 sp true fn.params.toList args.toList ds p := fun sp hsp =>
    trodAll_stays (kids_rows hl hm) hsz hT hA (fun x hx => le_same hle (hlt x hx)) hsp
   have hnat : (Value.bool true).resultList fn.resultTypes.size = [.bool true] := by rw [hres]; rfl
   have hresb : ∀ (b : Nat) (sp : Nat → Bool) (hd : Bool), DataW.TrodAll enc P W' b sp hd fn.resultTypes.toList ((Value.bool true).resultList fn.resultTypes.size) [.lit (.bool true)] [] := fun b sp hd => by
    rw [hnat, hres]
    exact trodAll_mk1 ⟨1, by simp [DataW.trod, hb, Value.cells]⟩
   have hfn' : s.fn H (ds ++ []) = { results := [.lit (.bool true)], args := ds } := by rw [List.append_nil]; exact hfn
   refine ⟨ds, [], p, [], p, [], hWW, ?_, ?_, ?_, World.keptBut_mono (fun _ f => f.elim) (le_kept hle fun _ => False), fun h => by cases h⟩
   ·rw [hfn']; exact hresb _ _ _
   ·rw [hfn']; exact hargs _ fun x hx => by simpa using hlt x hx
   ·rw [hfn', hvars]; exact rfl
end Go.AM
namespace Go.AM
open Go Go.Proofs
theorem own0 : ownKnob Tryz.prog.godebug = none := by kernel_rfl
theorem laidOut0 : laidOutB Tryz.prog = true := by kernel_rfl
theorem mapsRowed0 : mapsRowed Tryz.prog = true := by kernel_rfl
theorem slices0 : ((List.range Tryz.prog.types.size).all fun t => match Tryz.prog.underlying t with | some (.slice e) => decide (0 < Tryz.prog.cellsOf e) | _ => true) = true := by kernel_rfl
end Go.AM
namespace Go.AM
open Go Go.Proofs Go.ChangeShapes
structure RdF (P : Program) (T : TypeId) {α : Type} (en : α → List D) (ok : α → Prop) (n : Nat) : Prop where
 sound : ∀ {H : Type} (e : TypeId × Value → H) (w : World) (base : Nat) (spare : Nat → Bool) (held : Bool) (cs : List Value) (x : DataW H × List MemPlace),
  DataW.trod e P w base spare held n T cs = some x → ∃ y, Rd w cs (en y) ∧ (Light P T x.1 → ok y)
theorem Rdr.f {P : Program} {T : TypeId} {α : Type} (r : Rdr P T α) (n : Nat) : RdF P T r.enc r.ok n := ⟨fun e w base spare held cs x hx => r.sound e w base spare held n cs x hx⟩
theorem RdF.zero {P : Program} {T : TypeId} {α : Type} {en : α → List D} {ok : α → Prop} : RdF P T en ok 0 := ⟨fun e w base spare held cs x hx => by simp [DataW.trod] at hx⟩
theorem RdF.slice {P : Program} {T E : TypeId} {α : Type} {en : α → List D} {ok : α → Prop} {n : Nat} (r : RdF P E en ok n) (k : Nat) (hk : P.cellsOf E = k) (hlen : ∀ x, (en x).length = k) (h : P.underlying T = some (.slice E)) :
  RdF P T (fun l : List α => [.sl k (l.map en)]) (fun l => (∀ x ∈ l, ok x) ∧ l.length * P.bytesOf E ≤ reachBytes) (n + 1) := by
 subst hk
 constructor
 intro H e w base spare held cs x hx
 rcases DataW.trod_slice h hx with ⟨rfl, rfl⟩ | ⟨a, len, cap, elems, rest, n', hn', rfl, rfl, hb, hl, hm, hel, hat, _⟩
 ·exact ⟨[], Rd.one (.sl (es := []) (fun _ _ => default) (Nat.le_refl _) (by decide) (by simp) (by simp) (by simp) (by simp)), fun _ => ⟨by simp, by simp⟩⟩
 ·obtain rfl : n' = n := by omega
  have key : ∀ i (hi : i < elems.length), ∃ cs y, cs.length = P.cellsOf E ∧ (∀ j (hj : j < cs.length), w.cell? (a.add (i * P.cellsOf E + j)) = some cs[j]) ∧ Rd w cs (en y) ∧ (Light P E elems[i].1 → ok y) := by
   intro i hi
   have h1 := hat i (by omega)
   have h2 : elems[i]? = some elems[i] := List.getElem?_eq_getElem hi
   rw [h2, Option.bind_eq_some_iff] at h1
   obtain ⟨cs, hcs, htr⟩ := h1
   obtain ⟨hcl, hcc⟩ := cells_spec hcs
   obtain ⟨y, hy, hok⟩ := r.sound e w base spare held cs _ htr
   refine ⟨cs, y, hcl, fun j hj => ?_, hy, hok⟩
   rw [← Addr.add_add]
   exact hcc j hj
  have pick : ∀ m, m ≤ elems.length → ∃ ys : List α, ys.length = m ∧ (∀ i (hi : i < ys.length) (hi2 : i < elems.length), ∃ cs, cs.length = P.cellsOf E ∧ (∀ j (hj : j < cs.length), w.cell? (a.add (i * P.cellsOf E + j)) = some cs[j]) ∧ Rd w cs (en ys[i]) ∧ (Light P E elems[i].1 → ok ys[i])) := by
   intro m
   induction m with
   | zero => intro _; exact ⟨[], rfl, fun i hi => by simp at hi⟩
   | succ m ih =>
    intro hm'
    obtain ⟨ys, hys, hall⟩ := ih (by omega)
    obtain ⟨cs, y, g1, g2, g3, g4⟩ := key m (by omega)
    refine ⟨ys ++ [y], by simp [hys], fun i hi hi2 => ?_⟩
    by_cases him : i < ys.length
    ·rw [List.getElem_append_left him]
     exact hall i him hi2
    ·have : i = m := by simp at hi; omega
     subst this
     have e1 : (ys ++ [y])[i] = y := by
      rw [List.getElem_append_right (by omega)]
      simp
     rw [e1]
     exact ⟨cs, g1, g2, g3, g4⟩
  obtain ⟨ys, hys, hall⟩ := pick elems.length (Nat.le_refl _)
  refine ⟨ys, Rd.one ?_, fun hli => ?_⟩
  ·have hlen' : len = ys.length := by omega
   subst hlen'
   have hml : ys.length = (ys.map en).length := by simp
   rw [hml]
   refine .sl (fun i j => (w.cell? (a.add (i * P.cellsOf E + j))).getD default) (by simpa using hl) hm (fun e he => ?_) (fun _ => ⟨a, rfl⟩) (fun a' ha' i j hi hj => ?_) (fun i j hi hj => ?_)
   ·obtain ⟨y, _, rfl⟩ := List.mem_map.1 he
    exact hlen y
   ·cases ha'
    obtain ⟨cs, g1, g2, _⟩ := hall i (by simpa using hi) (by simp at hi; omega)
    rw [g2 j (by omega)]
    exact ⟨trivial, rfl⟩
   ·obtain ⟨cs, g1, g2, g3, _⟩ := hall i (by simpa using hi) (by simp at hi; omega)
    simp only [List.getElem_map] at hj ⊢
    have hjc : j < cs.length := by rw [g3.1]; exact hj
    rw [g2 j hjc]
    exact g3.2 j hjc hj
  ·obtain ⟨w1, w2⟩ := light_slice h hli
   refine ⟨fun y hy => ?_, by simpa [hys] using w1⟩
   obtain ⟨i, hi, rfl⟩ := List.getElem_of_mem hy
   obtain ⟨_, _, _, _, h4⟩ := hall i hi (by omega)
   exact h4 (w2 _ (List.mem_map.2 ⟨_, List.getElem_mem _, rfl⟩))
structure Gr.Big (g : Gr) : Prop where
 n : g.nodes.length ≤ bigN
 e : g.edges.length ≤ bigN
end Go.AM
namespace Go.AM
open Go Go.Proofs Go.ChangeShapes
def Rdr.arr3 {P : Program} {T A : TypeId} {α : Type} (r : Rdr P A α) (h : P.underlying T = some (.array 3 A)) (hc : P.cellsOf T = P.cellsOf A + P.cellsOf A + P.cellsOf A) : Rdr P T (α × α × α) where
 enc x := r.enc x.1 ++ (r.enc x.2.1 ++ r.enc x.2.2)
 ok x := r.ok x.1 ∧ r.ok x.2.1 ∧ r.ok x.2.2
 len x := by simp [r.len, hc]; omega
 sound e w base spare held fuel cs x hx := by
  obtain ⟨xs, n, rfl, rfl, hl, hxs, hat⟩ := DataW.trod_array h hx
  have g0 := hat 0 (by decide)
  have g1 := hat 1 (by decide)
  have g2 := hat 2 (by decide)
  have e0 : xs[0]? = some (xs[0]'(by omega)) := List.getElem?_eq_getElem (by omega)
  have e1 : xs[1]? = some (xs[1]'(by omega)) := List.getElem?_eq_getElem (by omega)
  have e2 : xs[2]? = some (xs[2]'(by omega)) := List.getElem?_eq_getElem (by omega)
  rw [e0, Nat.zero_mul] at g0
  rw [e1, Nat.one_mul] at g1
  rw [e2, show 2 * P.cellsOf A = P.cellsOf A + P.cellsOf A by omega] at g2
  obtain ⟨y, k1, k2⟩ := r.sound e w base spare held n _ _ g0
  obtain ⟨z, m1, m2⟩ := r.sound e w base spare held n _ _ g1
  obtain ⟨q, p1, p2⟩ := r.sound e w base spare held n _ _ g2
  refine ⟨(y, z, q), ?_, fun hli => ?_⟩
  rotate_left
  ·unfold Light at hli k2 m2 p2
   have e2 : xs = [xs[0]'(by omega), xs[1]'(by omega), xs[2]'(by omega)] := list3 hxs
   rw [e2] at hli
   simp only [List.map_cons, List.map_nil, DataW.weights, h, DataW.weightsAll, List.all_append, Bool.and_eq_true] at hli
   exact ⟨k2 hli.1, m2 hli.2.1, p2 hli.2.2.1⟩
  have hcs : cs = (cs.drop 0).take (P.cellsOf A) ++ ((cs.drop (P.cellsOf A)).take (P.cellsOf A) ++ (cs.drop (P.cellsOf A + P.cellsOf A)).take (P.cellsOf A)) := by
   have : (cs.drop (P.cellsOf A + P.cellsOf A)).take (P.cellsOf A) = cs.drop (P.cellsOf A + P.cellsOf A) := List.take_of_length_le (by simp; omega)
   rw [this, ← List.drop_drop, List.take_append_drop, List.drop_zero, List.take_append_drop]
  rw [hcs]
  exact k1.append (m1.append p1)
def rdB : Rdr Tryz.prog 5 Int := Rdr.int (k := .u8) Tryz.underlying5 (by kernel_rfl)
theorem rdB_ok {n : Int} (h : (Lit.int .u8 n).wf = true) : 0 ≤ n ∧ n < 256 := by
 simp [Lit.wf, IntKind.min, IntKind.max, IntKind.signed, IntKind.bits] at h
 omega
def rdBs : Rdr Tryz.prog 56 (List Int) := rdB.sliceN 1 Tryz.underlying56 (by kernel_rfl) (by kernel_rfl)
theorem rdBs_ok {l : List Int} (h : rdBs.ok l) : U8s l := fun c hc => rdB_ok (h.1 c hc)
def rdB3 : Rdr Tryz.prog 215 (Int × Int × Int) := rdB.arr3 Tryz.underlying215 (by kernel_rfl)
def rdB3s : Rdr Tryz.prog 57 (List (Int × Int × Int)) := rdB3.sliceN 3 Tryz.underlying57 (by kernel_rfl) (by kernel_rfl)
def rdDraft0 : Rdr Tryz.prog 59 (List Int × List (Int × Int × Int)) := Rdr.struct2 rdBs rdB3s Tryz.underlying59 rfl rfl rfl (by kernel_rfl) (by kernel_rfl)
abbrev Ch.cells (x : Ch) : List D := [.sl 1 (x.a.nodes.map fun n => [u8 n]), .sl 3 (x.a.edges.map fun e => [u8 e.1, u8 e.2.1, u8 e.2.2]), bytes x.b, bytes x.g, bytes x.c]
end Go.AM
namespace Go.AM
open Go Go.Proofs Go.ChangeShapes
def Rdr.str {P : Program} {T : TypeId} (h : P.underlying T = some .string) (hc : P.cellsOf T = 1) : Rdr P T ByteArray where
 enc n := [.raw (.string n)]
 ok n := n.size ≤ maxLen
 len _ := by simp [hc]
 sound e w base spare held fuel cs x hx := by
  cases fuel with
  | zero => simp [DataW.trod] at hx
  | succ n =>
   unfold DataW.trod at hx
   rw [h] at hx
   split at hx <;> simp_all
   exact ⟨_, Rd.one (.raw rfl), fun _ => hx.1⟩
def Rdr.bool {P : Program} {T : TypeId} (h : P.underlying T = some .bool) (hc : P.cellsOf T = 1) : Rdr P T Bool where
 enc n := [.raw (.bool n)]
 ok n := True
 len _ := by simp [hc]
 sound e w base spare held fuel cs x hx := by
  cases fuel with
  | zero => simp [DataW.trod] at hx
  | succ n =>
   unfold DataW.trod at hx
   rw [h] at hx
   split at hx <;> first | (simp_all; done) | skip
   exact ⟨_, Rd.one (.raw rfl), fun _ => trivial⟩
end Go.AM
namespace Go.AM
open Go Go.Proofs Go.ChangeShapes
end Go.AM
namespace Go.AM
open Go Go.Proofs Go.ChangeShapes
structure Dx where
 left : Dr
 keep : Int
 more : List Int
structure Dx.U8 (x : Dx) : Prop where
 l : x.left.U8
 m : U8s x.more
 ml : x.more.length ≤ 200000000000000
 nl : x.left.nodes.length ≤ 200000000000000
 el : x.left.edges.length ≤ 200000000000000
structure Scn where
 r : Dx
 codes : List Int
 more : List Int
structure Scn.U8 (x : Scn) : Prop where
 r : x.r.U8
 c : U8s x.codes
 m : U8s x.more
 ml : x.more.length ≤ 200000000000000
abbrev u64 (n : Int) : D := .raw (.int .u64 n)
abbrev Dx.cells (x : Dx) : List D := [.sl 1 (x.left.nodes.map fun n => [u8 n]), .sl 3 (x.left.edges.map fun e => [u8 e.1, u8 e.2.1, u8 e.2.2]), u64 x.keep, bytes x.more]
abbrev Scn.cells (x : Scn) : List D := [.sl 1 (x.r.left.nodes.map fun n => [u8 n]), .sl 3 (x.r.left.edges.map fun e => [u8 e.1, u8 e.2.1, u8 e.2.2]), u64 x.r.keep, bytes x.r.more, bytes x.codes, bytes x.more]
abbrev Dx.av (x : Dx) : AV := .agg [.d (.sl 1 (x.left.nodes.map fun n => [u8 n])), .d (.sl 3 (x.left.edges.map fun e => [u8 e.1, u8 e.2.1, u8 e.2.2])), .d (u64 x.keep), .d (bytes x.more)]
abbrev Scn.av (x : Scn) : AV := .agg [.d (.sl 1 (x.r.left.nodes.map fun n => [u8 n])), .d (.sl 3 (x.r.left.edges.map fun e => [u8 e.1, u8 e.2.1, u8 e.2.2])), .d (u64 x.r.keep), .d (bytes x.r.more), .d (bytes x.codes), .d (bytes x.more)]
def rdU64 : Rdr Tryz.prog 60 Int := Rdr.int (k := .u64) Tryz.underlying60 (by kernel_rfl)
theorem by_u8 : Tryz.prog.bytesOf 5 = 1 := by kernel_rfl
theorem by_u83 : Tryz.prog.bytesOf 215 = 3 := by kernel_rfl
theorem rdBs_len {l : List Int} (h : rdBs.ok l) : l.length ≤ 200000000000000 := by
 have h2 : l.length * Tryz.prog.bytesOf 5 ≤ reachBytes := h.2
 rw [by_u8] at h2
 have : reachBytes = 140737488351232 := rfl
 omega
theorem rdB3s_len {l : List (Int × Int × Int)} (h : rdB3s.ok l) : l.length ≤ 200000000000000 := by
 have h2 : l.length * Tryz.prog.bytesOf 215 ≤ reachBytes := h.2
 rw [by_u83] at h2
 have : reachBytes = 140737488351232 := rfl
 omega
def rdDr0 : Rdr Tryz.prog 59 Dr := rdDraft0.map (fun x => ⟨x.1, x.2⟩) (fun x => [.sl 1 (x.nodes.map fun n => [u8 n]), .sl 3 (x.edges.map fun e => [u8 e.1, u8 e.2.1, u8 e.2.2])]) (fun x => x.U8 ∧ x.nodes.length ≤ 200000000000000 ∧ x.edges.length ≤ 200000000000000) (fun _ => rfl)
 (fun x h => ⟨⟨fun k hk => rdB_ok (h.1.1 k hk), fun k hk => ⟨rdB_ok (h.2.1 k hk).1, rdB_ok (h.2.1 k hk).2.1, rdB_ok (h.2.1 k hk).2.2⟩⟩, rdBs_len h.1, rdB3s_len h.2⟩) (fun _ => by kernel_rfl)
def rdDx0 : Rdr Tryz.prog 62 (Dr × Int × List Int) := Rdr.struct3 rdDr0 rdU64 rdBs Tryz.underlying62 rfl rfl rfl rfl (by kernel_rfl) (by kernel_rfl) (by kernel_rfl)
def rdDx : Rdr Tryz.prog 62 Dx := rdDx0.map (fun x => ⟨x.1, x.2.1, x.2.2⟩) Dx.cells Dx.U8 (fun _ => rfl) (fun x h => ⟨h.1.1, rdBs_ok h.2.2, rdBs_len h.2.2, h.1.2.1, h.1.2.2⟩) (fun _ => by kernel_rfl)
def rdScn0 : Rdr Tryz.prog 64 (Dx × List Int × List Int) := Rdr.struct3 rdDx rdBs rdBs Tryz.underlying64 rfl rfl rfl rfl (by kernel_rfl) (by kernel_rfl) (by kernel_rfl)
def rdScn : Rdr Tryz.prog 64 Scn := rdScn0.map (fun x => ⟨x.1, x.2.1, x.2.2⟩) Scn.cells Scn.U8 (fun _ => rfl) (fun x h => ⟨h.1, rdBs_ok h.2.1, rdBs_ok h.2.2, rdBs_len h.2.2⟩) (fun _ => by kernel_rfl)
set_option maxRecDepth 100000 in
theorem arg_scene {ps : Array TypeId} {args : Array Value} {W : World} {base base' : Nat} {sp : Nat → Bool} {held : Bool} {H : Type} {enc : TypeId × Value → H} (hval : ∀ (j : Nat) t v, ps[j]? = some t → args[j]? = some v → Value.okWide Tryz.prog W .any base t v)
  (j : Nat) (v : Value) (hp : ps[j]? = some 64) (ha : args[j]? = some v) {d : DataW H} {p : List MemPlace} (h : DataW.Trod enc Tryz.prog W base' sp held 64 v d p) (hli : Light Tryz.prog 64 d) : ∃ x : Scn, x.U8 ∧ RV G0 W x.av v :=
 Exists.elim (arg_agg hval j 64 v hp ha rdScn aggT_64 h hli) fun x hx => ⟨x, hx.1, hx.2⟩
def bitV (S : Int) (j : Nat) : Bool := (IntKind.u64.wrap ((((S.fdiv (2 ^ min (((j : Int) % 64)).toNat IntKind.u64.bits) % 2 ^ IntKind.u64.bits).toNat &&& (1 % 2 ^ IntKind.u64.bits) : Nat) : Int)) == 1)
def Dx.dr (x : Dx) : Dr := ⟨x.left.nodes.take (min x.left.nodes.length 3), x.left.edges.take (min x.left.edges.length 3)⟩
def Dx.g (x : Dx) : Gr := madeG x.dr
def mad7 (g : Gr) (S : Int) : Mo := lstP g (bitV S) (fun j => bitV S (g.nodes.length + j))
def Dx.k (x : Dx) : Mo := mad7 x.g x.keep
def Dx.cs (x : Dx) : List Int := 255 :: x.more.take (min x.more.length 6)
def Dx.right (x : Dx) : Gr := gwG (exG x.g x.k) x.cs
def Dx.sp (x : Dx) : Sp := ⟨x.g, x.right, x.k, idM (exG x.g x.k)⟩
def scS (g : Gr) (a b c : Int) : Gr :=
 ⟨if a % 2 = 0 then g.nodes ++ [b % 3] else g.nodes, if 0 < (if a % 2 = 0 then g.nodes ++ [b % 3] else g.nodes).length ∧ 0 < a % 3 then g.edges ++ [⟨a / 8 % 2, b / 4 % (if a % 2 = 0 then g.nodes ++ [b % 3] else g.nodes).length, c % (if a % 2 = 0 then g.nodes ++ [b % 3] else g.nodes).length⟩] else g.edges⟩
def scK (g : Gr) (cs : List Int) : Nat → Gr
 | 0 => g
 | j + 1 => scS (scK g cs j) (cs.getD (3 * j) 0) (cs.getD (3 * j + 1) 0) (cs.getD (3 * j + 2) 0)
def scN (cs : List Int) : Nat := min 3 (cs.length / 3)
def Scn.g (x : Scn) : Gr := scK x.r.g x.more (scN x.more)
theorem scS_gw {l g : Gr} {n m : Nat} (h : Gw l g n m) (a b c : Int) : Gw l (scS g a b c) (n + 1) (m + 1) := by
 have key : ∀ N : List Int, Gw l ⟨N, g.edges⟩ (n + 1) m → Gw l ⟨N, if 0 < N.length ∧ 0 < a % 3 then g.edges ++ [⟨a / 8 % 2, b / 4 % N.length, c % N.length⟩] else g.edges⟩ (n + 1) (m + 1) := fun N hN => by
  split
  ·rename_i hc
   have hnz : (N.length : Int) ≠ 0 := by omega
   have hp : (0 : Int) < N.length := by omega
   exact hN.edge ⟨by simp only; omega, by simp only; omega⟩ ⟨Int.emod_nonneg _ hnz, Int.emod_lt_of_pos _ hp⟩ ⟨Int.emod_nonneg _ hnz, Int.emod_lt_of_pos _ hp⟩
  ·exact hN.mono (Nat.le_refl _) (Nat.le_succ _)
 refine key _ ?_
 split
 ·exact h.node (by omega)
 ·exact h.mono (Nat.le_succ _) (Nat.le_refl _)
theorem scK_gw (g : Gr) (cs : List Int) : ∀ j, Gw g (scK g cs j) j j
 | 0 => Gw.refl g
 | j + 1 => scS_gw (scK_gw g cs j) _ _ _
structure Dx.Ok (x : Dx) : Prop where
 v : validG x.g = 0
 i : InK x.g
 n : x.g.nodes.length ≤ 3
 e : x.g.edges.length ≤ 3
 k : VP x.g x.k
 w : Gw (exG x.g x.k) x.right 4 8
theorem Dx.U8.dr {x : Dx} (h : x.U8) : x.dr.U8 := ⟨fun k hk => h.l.n k (List.mem_of_mem_take hk), fun k hk => h.l.e k (List.mem_of_mem_take hk)⟩
theorem Dx.U8.cs {x : Dx} (h : x.U8) : U8s x.cs := fun k hk => by
 rcases List.mem_cons.1 hk with rfl | hk
 ·exact ⟨by decide, by decide⟩
 ·exact h.m k (List.mem_of_mem_take hk)
theorem Dx.ok {x : Dx} (h : x.U8) : x.Ok := by
 have hv := madeG_valid h.dr
 have hl : x.g.nodes.length ≤ 3 ∧ x.g.edges.length ≤ 3 := by
  refine ⟨by simp only [Dx.g, Dx.dr, madeG, mN_len, List.length_take]; omega, ?_⟩
  have hl : x.dr.edges.length ≤ 3 := by simp only [Dx.dr, List.length_take]; omega
  simp only [Dx.g, madeG]
  by_cases h0 : x.dr.nodes.length = 0
  ·rw [if_pos h0]; simp
  ·rw [if_neg h0]; simp only [mE_len]; omega
 exact ⟨hv, madeG_in _, hl.1, hl.2, lstP_vp hv, gwG_gw _ _⟩
structure Stg (s : Sp) (g : Gr) : Prop where
 k : VP s.l s.k
 i : s.i = idM (exG s.l s.k)
 kr : Pre (exG s.l s.k) s.r
 lg : Pre s.l g
 n : s.l.nodes.length ≤ 3
 e : s.l.edges.length ≤ 3
 rn : s.r.nodes.length ≤ 7
 re : s.r.edges.length ≤ 11
 gn : g.nodes.length ≤ 6
 ge : g.edges.length ≤ 6
theorem Scn.stg {x : Scn} (h : x.U8) : Stg x.r.sp x.g ∧ InK x.r.g ∧ InK x.r.right ∧ InK x.g := by
 have o := Dx.ok h.r
 have hk := o.k.len
 have he : (exG x.r.g x.r.k).nodes.length = x.r.k.nodes.length ∧ (exG x.r.g x.r.k).edges.length = x.r.k.edges.length := by simp [exG]
 have w := o.w.len
 have hw2 := scK_gw x.r.g x.more (scN x.more)
 have hs : scN x.more ≤ 3 := Nat.min_le_left _ _
 have w2 := hw2.len
 have hon := o.n
 have hoe := o.e
 refine ⟨⟨o.k, rfl, o.w.pre o.k.emb.vm.va (by omega) (by omega), hw2.pre o.v (by omega) (by omega), o.n, o.e, ?_, ?_, ?_, ?_⟩, o.i, o.w.inK (exG_in o.k o.i), hw2.inK o.i⟩
 ·show x.r.right.nodes.length ≤ 7
  omega
 ·show x.r.right.edges.length ≤ 11
  omega
 ·show (scK x.r.g x.more (scN x.more)).nodes.length ≤ 6
  omega
 ·show (scK x.r.g x.more (scN x.more)).edges.length ≤ 6
  omega
theorem Stg.spok {s : Sp} {g : Gr} (h : Stg s g) : SpOk s := ⟨h.k, by rw [h.i]; exact h.kr.emb⟩
theorem Stg.up {s : Sp} {g : Gr} (h : Stg s g) (hl : InK s.l) (hr : InK s.r) (hg : InK g) : Stg ⟨upG s.l, upG s.r, s.k, s.i⟩ (upG g) := by
 have hk := upG_vp h.k hl
 have e := upG_ex h.k
 refine ⟨hk, ?_, ?_, upG_pre h.lg hl hg, by rw [upG_len]; exact h.n, h.e, by rw [upG_len]; exact h.rn, h.re, by rw [upG_len]; exact h.gn, h.ge⟩
 ·show s.i = idM (exG (upG s.l) s.k)
  rw [e, upG_id, h.i]
 ·show Pre (exG (upG s.l) s.k) (upG s.r)
  rw [e]
  exact upG_pre h.kr (exG_in h.k hl) hr
end Go.AM
namespace Go.AM
open Go
variable {P : Program} {wr : Bool}
theorem effW_maker' {base : Nat} {o : Oper} {ρ : Operand → AV} {b b' : Bxs} {v : AV} (hm : maker o.op = true) (h : EffW P base o ρ b v b') :
  ∃ s rows, o.dst = some s ∧ b' = upd b (base + s) (some rows) := by
 unfold EffW at h
 cases hop : o.op <;> rw [hop] at hm h <;> first | cases hm | skip
 ·simp only at h
  split at h
  ·rename_i s cs h1 h2
   obtain ⟨g1, g2, g3⟩ := h
   exact ⟨s, [cs], h1, g3⟩
  ·exact h.elim
 ·simp only at h
  split at h
  ·rename_i sz by' zs s k1 n k2 n' h1 h2 h3 h4
   obtain ⟨g1, g2, g3, g4, g5, g6⟩ := h
   exact ⟨s, _, h2, g6⟩
  ·exact h.elim
def isLoad : Op → Bool
 | .load .. => true
 | _ => false
theorem isLoad_spec {o : Oper} (h : isLoad o.op = true) : cls o.op = .r ∧ ∃ p, ptrOp o.op = some p := by
 cases hop : o.op <;> rw [hop] at h <;> first | cases h | skip
 exact ⟨rfl, _, rfl⟩
theorem maker_cls {o : Oper} (h : maker o.op = true) : cls o.op = .w := by
 cases hop : o.op <;> rw [hop] at h <;> first | (exact absurd h Bool.false_ne_true) | rfl
def lm (x y : Oper) : Bool := isLoad x.op && maker y.op || maker x.op && isLoad y.op
def regOk5 (ops : Array Oper) : Bool :=
 let an := ancs ops.toList []
 dstUniq ops && (List.range ops.size).all fun i => (match ops[i]? with | some o => (direct o).all fun j => decide (j < i) | none => true) &&
  (List.range i).all fun j => (an.getD i 0).testBit j || (match ops[j]?, ops[i]? with
   | some x, some y => Oper.apart ops x y && (!clash x y || isPtr x.op && isPtr y.op || lm x y)
   | _, _ => false)
def mks : List Oper → List Nat
 | [] => []
 | o :: r => if maker o.op = true then (match o.dst with | some s => s :: mks r | none => mks r) else mks r
def lds : List Oper → List Operand
 | [] => []
 | o :: r => match o.op with
  | .load _ p => p :: lds r
  | _ => lds r
def NB (x : AV) (k : Nat) : Prop := match x with
 | .ptr k' _ _ => k' ≠ k
 | _ => True
def FarN (x : AV) (base : Nat) : List Nat → Prop
 | [] => True
 | s :: r => NB x (base + s) ∧ FarN x base r
def FarM (S : AState) (base : Nat) (ms : List Nat) : List Operand → Prop
 | [] => True
 | p :: r => FarN (S.ev p) base ms ∧ FarM S base ms r
theorem farN_spec {x : AV} {base : Nat} : ∀ {l : List Nat} {s : Nat}, FarN x base l → s ∈ l → NB x (base + s)
 | a :: r, s, h, hs => by
  rcases List.mem_cons.1 hs with rfl | hs
  ·exact h.1
  ·exact farN_spec h.2 hs
theorem farM_spec {S : AState} {base : Nat} {ms : List Nat} : ∀ {l : List Operand} {p : Operand}, FarM S base ms l → p ∈ l → FarN (S.ev p) base ms
 | a :: r, p, h, hp => by
  rcases List.mem_cons.1 hp with rfl | hp
  ·exact h.1
  ·exact farM_spec h.2 hp
theorem mks_mem {o : Oper} {s : Nat} (hm : maker o.op = true) (hd : o.dst = some s) : ∀ {l : List Oper}, o ∈ l → s ∈ mks l
 | a :: r, h => by
  rcases List.mem_cons.1 h with rfl | h
  ·rw [mks, if_pos hm, hd]; simp
  ·have := mks_mem hm hd h
   rw [mks]
   split
   ·split
    ·exact List.mem_cons_of_mem _ this
    ·exact this
   ·exact this
theorem lds_mem {o : Oper} {p : Operand} (hm : isLoad o.op = true) (hp : ptrOp o.op = some p) : ∀ {l : List Oper}, o ∈ l → p ∈ lds l
 | a :: r, h => by
  rcases List.mem_cons.1 h with rfl | h
  ·cases hop : o.op <;> rw [hop] at hm hp <;> first | cases hm | skip
   simp only [ptrOp, Option.some.injEq] at hp
   subst hp
   rw [lds, hop]; simp
  ·have := lds_mem hm hp h
   rw [lds]
   split
   ·exact List.mem_cons_of_mem _ this
   ·exact this
theorem any_sound5 {n nb base : Nat} {ops : Array Oper} {Q : Exit → Act → World → Prop} {Sf : AState} {G0 : Gh} {w0 : World} {b0 : Bxs} (hreg : regOk5 ops = true) (hal : allocOk ops = true) (hdst : dstOk n ops = true) (hnb : base + n ≤ nb)
  (hfar : Far Sf (ptrs ops.toList)) (hfm : FarM Sf base (mks ops.toList) (lds ops.toList))
  (hQ : ∀ a' w' G', RelS n nb G' Sf a' w' → LeK base G0 w0 b0 G' w' Sf.box → Q .normal a' w') (fuel : Nat) (listed : Array Bool) (rem : List Nat) (S : AState) (a : Act) (w : World) (G : Gh) (hrem : rem = List.range ops.size) (hside : Side ops S)
  (h1 : listed.size = ops.size) (h2 : rem = (List.range ops.size).filter (fun i => !listed.getD i true)) (h3 : rem.length = fuel) (h4 : ∀ i o, ops[i]? = some o → listed.getD i false = true → ∀ j ∈ direct o, listed.getD j false = true)
  (h5 : IRun P false base ops rem S Sf) (h6 : RelS n nb G S a w) (h7 : ∀ i ∈ rem, ∀ o, ops[i]? = some o → Pend P base o G S.box) (h8 : LeK base G0 w0 b0 G w S.box) : wpAny P .any ops Q fuel listed a w := by
 unfold regOk5 at hreg
 simp only [Bool.and_eq_true] at hreg
 obtain ⟨hu, hreg⟩ := hreg
 have key : ∀ (i : Nat) (o : Oper), ops[i]? = some o → (∀ j ∈ direct o, j < i) ∧ ∀ j x, ops[j]? = some x → j < i → ((ancs ops.toList []).getD i 0).testBit j = true ∨ x.apart ops o = true ∧ ((clash x o = false ∨ isPtr x.op = true ∧ isPtr o.op = true) ∨ lm x o = true) := by
  intro i o ho
  have his : i < ops.size := (Array.getElem?_eq_some_iff.1 ho).1
  have hall := List.all_eq_true.1 hreg i (by simpa using his)
  rw [ho] at hall
  simp only [Bool.and_eq_true] at hall
  refine ⟨fun j hj => by simpa using List.all_eq_true.1 hall.1 j hj, fun j x hx hj => ?_⟩
  have h2 := List.all_eq_true.1 hall.2 j (by simpa using hj)
  rw [hx] at h2
  simpa only [Bool.or_eq_true, Bool.and_eq_true, Bool.not_eq_true'] using h2
 have start : Ivs Sf S := by
  intro t
  by_cases hd : ∃ o ∈ ops.toList, o.dst = some t
  ·obtain ⟨o, ho, hd⟩ := hd
   exact .inr (hside o ho t hd)
  ·refine .inl (irun_keeps (fun j _ x hx hxd => hd ⟨x, by simpa using Array.mem_of_getElem? hx, hxd⟩) h5).symm
 refine any_sound' (fun i o ho => (key i o ho).1) (Iv := Ivs Sf) (fun i o S' S'' rest ho hni hst hrun hiv => ivs_step hu i o S' S'' rest ho hni hst hrun hiv) ?_ hal hdst hnb hQ fuel listed rem S a w G h1 h2 h3 h4 start h5 h6 h7 h8
 intro i j o x ho hx hj hb S' S1 S2 hiv g1 g2
 have back : ∀ (z : Operand) k i off, S'.ev z = .ptr k i off → Sf.ev z = .ptr k i off := by
  intro z k i off hz
  cases z with
  | tmp t =>
   rcases hiv t with e | e
   ·exact e.symm.trans hz
   ·have hz' : S'.tmps t = .ptr k i off := hz
    rw [hz'] at e
    exact e.elim
  | const c => exact hz
  | global c => exact hz
  | func c => exact hz
 have nb : ∀ (y z : Oper) (p : Operand) (s : Nat), isLoad y.op = true → ptrOp y.op = some p → y ∈ ops.toList → maker z.op = true → z.dst = some s → z ∈ ops.toList → ∀ k i off, S'.ev p = .ptr k i off → k ≠ base + s := fun y z p s hy hp hym hz hs hzm k i off hk => by
  have := farN_spec (farM_spec hfm (lds_mem hy hp hym)) (mks_mem hz hs hzm)
  rw [back p _ _ _ hk] at this
  exact this
 have hxm : x ∈ ops.toList := by simpa using Array.mem_of_getElem? hx
 have hom : o ∈ ops.toList := by simpa using Array.mem_of_getElem? ho
 rcases (key i o ho).2 j x hx hj with h | ⟨h, h'⟩
 ·rw [hb] at h; cases h
 ·by_cases hlm : lm x o = true
  ·unfold lm at hlm
   simp only [Bool.or_eq_true, Bool.and_eq_true] at hlm
   refine gstep_swap' h (fun {c0 c1 c2 s0 s1 s2 m0 m1 m2 vx vy} e1 e2 => ?_) g1 g2
   unfold Eff at e1 e2 ⊢
   rcases hlm with ⟨q1, q2⟩ | ⟨q1, q2⟩
   ·obtain ⟨k1, p, hp⟩ := isLoad_spec q1
    have k2 := maker_cls q2
    simp only [k1, k2] at e1 e2 ⊢
    obtain ⟨e1, rfl, rfl, rfl⟩ := e1
    obtain ⟨e2, rfl, rfl⟩ := e2
    obtain ⟨s, rows, hs, rfl⟩ := effW_maker' q2 e2
    exact ⟨_, _, _, ⟨e2, rfl, rfl⟩, effR_ptr hp k1 e1 (nb x o p s q1 hp hxm q2 hs hom), rfl, rfl, rfl⟩
   ·obtain ⟨k1, p, hp⟩ := isLoad_spec q2
    have k2 := maker_cls q1
    simp only [k1, k2] at e1 e2 ⊢
    obtain ⟨e1, rfl, rfl⟩ := e1
    obtain ⟨e2, rfl, rfl, rfl⟩ := e2
    obtain ⟨s, rows, hs, rfl⟩ := effW_maker' q1 e1
    exact ⟨_, _, _, ⟨effR_back hp k1 (nb o x p s q2 hp hom q1 hs hxm) e2, rfl, rfl, rfl⟩, e1, rfl, rfl⟩
  ·have h' := h'.resolve_right hlm
   cases hc : clash x o with
   | false => exact gstep_swap h hc g1 g2
   | true =>
    rcases h' with h' | ⟨h1', h2'⟩
    ·rw [hc] at h'; cases h'
    ·obtain ⟨p, hp⟩ := Option.isSome_iff_exists.1 h1'
     obtain ⟨q, hq⟩ := Option.isSome_iff_exists.1 h2'
     have hnk := far_spec hfar hj (by simpa using hx) (by simpa using ho) hp hq hc
     refine gstep_swap' h (fun {c0 c1 c2 s0 s1 s2 m0 m1 m2 vx vy} e1 e2 => ?_) g1 g2
     refine eff_far hp hq (fun k i1 off k' i2 off' hk hk' => ?_) e1 e2
     rw [back p _ _ _ hk, back q _ _ _ hk'] at hnk
     exact hnk
theorem AT.region5 {cx : Cx} {nt0 id : Nat} {ops : Array Oper} {S : AState} {K : Exit → AState → Prop} (hf : P.follows .mixedOrders = true) (hnb : cx.base + cx.n ≤ cx.nb) (hok : (allocOk ops && dstOk cx.n ops && regOk5 ops) = true) (hside : Side ops S)
  (h : ARegion P cx ops true S (fun S' => (Far S' (ptrs ops.toList) ∧ FarM S' cx.base (mks ops.toList) (lds ops.toList)) ∧ K .normal S')) : AT P cx nt0 (.region id ops true) S K := by
 simp only [Bool.and_eq_true] at hok
 obtain ⟨⟨hal, hdst⟩, hreg⟩ := hok
 intro G0 w0 he hn G a w hr hl
 have hd := dstOk_spec hdst
 obtain ⟨b, hb, hr1, hp, hkeep⟩ := preB_sound hnb ops.toList S.box (S := S) hr (fun o ho d hod => hd o d (by simpa using ho) hod) (allocOk_nodup hal) h
 have hl1 : LeC cx G0 w0 G w { S with box := b } := ⟨hl.1, fun k hk hg => by
  rw [← hl.2 k hk hg]
  refine hkeep k fun hm => ?_
  obtain ⟨o, ho, he⟩ := List.mem_filterMap.1 hm
  split at he
  ·rename_i T s h1 h2
   simp only [Option.some.injEq] at he
   subst he
   exact absurd hk (by simp)
  ·cases he⟩
 simp only at hb
 obtain ⟨S', hrun, ⟨hfar, hfm⟩, hK⟩ := hb
 refine wp_region_any hf ?_
 have hrd : RelS cx.n cx.nb G { S with box := b } a w.drew := hr1.drew
 have hld : LeC cx G0 w0 G w.drew { S with box := b } := hl1.step ⟨Le.drew, fun k _ hg => ⟨hg, rfl⟩⟩
 refine any_sound5 (n := cx.n) (nb := cx.nb) (base := cx.base) (Sf := S') (G0 := G) (w0 := w.drew) (b0 := b) hreg hal hdst hnb hfar hfm (fun a' w' G' h1 h2 => ⟨S', G', hK, h1, hld.step h2⟩) ops.size (Array.replicate ops.size false) (List.range ops.size) { S with box := b } a w.drew G rfl hside (by simp) ?_ (by simp) ?_ (IRun.of_all hrun) hrd ?_ (LeK.refl _ _ _ _)
 ·rw [List.filter_eq_self.2]
  intro i hi
  simp at hi
  simp [Array.getD, hi]
 ·intro i o ho hlst
  have hi := (Array.getElem?_eq_some_iff.1 ho).1
  simp [Array.getD, hi] at hlst
 ·intro i _ o ho
  exact hp o (by simpa using Array.mem_of_getElem? ho)
theorem AL.region5 {cx : Cx} {nt0 : Nat} {r : List CI} {K : Exit → AState → Prop} {S : AState} {id : Nat} {ops : Array Oper} (hf : P.follows .mixedOrders = true) (hnb : cx.base + cx.n ≤ cx.nb) (hok : (allocOk ops && dstOk cx.n ops && regOk5 ops) = true) (hs : Side ops S)
  (h : FReg P cx ops true (fun S' => (Far S' (ptrs ops.toList) ∧ FarM S' cx.base (mks ops.toList) (lds ops.toList)) ∧ AL P cx nt0 K r S') S) : AL P cx nt0 K (.c (.region id ops true) :: r) S := by
 simp only [AL]
 exact AT.region5 hf hnb hok hs (fReg_sound h)
end Go.AM
namespace Go.AM
open Go Go.Proofs
@[simp] theorem rep_rB (n : Nat) : List.replicate n [AV.d (.raw (.bool false))] = rowsB (List.replicate n false) := by simp [rowsB]
def mbL (b : Nat → Bool) (n i : Nat) : List Bool := (List.range n).map fun (k : Nat) => decide (k < i) && b k
@[simp] theorem mbL_len (b : Nat → Bool) (n i : Nat) : (mbL b n i).length = n := by simp [mbL]
theorem congrArg₂' {a b c d : List Int} (h : a = b) (k : c = d) : (⟨a, c⟩ : Mo) = ⟨b, d⟩ := by rw [h, k]
theorem mbL_zero (b : Nat → Bool) (n : Nat) : mbL b n 0 = List.replicate n false := by
 refine List.ext_getElem (by simp) fun k h1 h2 => ?_
 simp [mbL]
theorem mbL_set (b : Nat → Bool) {n i : Nat} (h : i < n) : (mbL b n i).set i (b i) = mbL b n (i + 1) := by
 refine List.ext_getElem (by simp) fun k h1 h2 => ?_
 rw [List.getElem_set]
 simp only [mbL, List.getElem_map, List.getElem_range]
 split
 ·rename_i e; subst e; simp
 ·rename_i e
  have : (k < i + 1) = (k < i) := by rw [eq_iff_iff]; omega
  simp [this]
theorem mbL_get (b : Nat → Bool) {n k : Nat} (h : k < n) : (mbL b n n).getD k false = b k := by simp [mbL, h]
abbrev m7N (g : Gr) (S : Int) (i : Nat) : List Bool := mbL (bitV S) g.nodes.length i
abbrev m7E (g : Gr) (S : Int) (i : Nat) : List Bool := mbL (fun j => bitV S (g.nodes.length + j)) g.edges.length i
def stM7a (g : Gr) (S : Int) (nb : Nat) (box : Bxs) (tok : Tks) (nt i : Nat) : AState :=
 ⟨tl [(7, I i), (6, .msl (nb + 16) 0 g.edges.length 1), (5, .msl (nb + 12) 0 g.nodes.length 1), (1, .d (u64 S)), (2, .ptr (nb + 2) 0 0), (4, .ptr (nb + 4) 0 0)], lb nb box [(16, rowsB (m7E g S 0)), (12, rowsB (m7N g S i)), (2, [[.d (ints g.nodes), .d (AM.edges g.edges)]]), (4, [[nilS, nilS]])], tok, nt⟩
def stM7b (g : Gr) (S : Int) (nb : Nat) (box : Bxs) (tok : Tks) (nt i : Nat) : AState :=
 ⟨tl [(8, I i), (6, .msl (nb + 16) 0 g.edges.length 1), (5, .msl (nb + 12) 0 g.nodes.length 1), (1, .d (u64 S)), (2, .ptr (nb + 2) 0 0), (4, .ptr (nb + 4) 0 0)], lb nb box [(16, rowsB (m7E g S i)), (12, rowsB (m7N g S g.nodes.length)), (2, [[.d (ints g.nodes), .d (AM.edges g.edges)]]), (4, [[nilS, nilS]])], tok, nt⟩
theorem to_frzB {p q : Nat → Prop} {k n : Nat} {L : List Bool} (h : L.length = n) : To p q (some (k, 1, rB L)) (.msl k 0 n 1) (.d (bls L)) := by
 have h2 := To.frz (p := p) (q := q) (fz := some (k, 1, rB L)) (k := k) (sz := 1) (es := rB L) rfl
 have : (rB L).length = n := by simp [rB, h]
 rw [this] at h2
 exact h2
theorem made07_c (g : Gr) (hg : g.Fit) (hv : validG g = 0) (S : Int) (tok : Tks) (nt : Nat) : DCall Tryz.prog 137 [g.av, .d (u64 S)] tok nt (mad7 g S).av tok nt := by
 intro box nb
 have hgn := hg.n
 have hge := hg.e
 have hL := least_c g hg hv (m7N g S g.nodes.length) (m7E g S g.edges.length) (by simp) (by simp)
 have hLe : lstP g (fun k => (m7N g S g.nodes.length).getD k false) (fun k => (m7E g S g.edges.length).getD k false) = mad7 g S := by
  unfold mad7 lstP
  have e2 : ∀ k, k < g.edges.length → (m7E g S g.edges.length).getD k false = bitV S (g.nodes.length + k) := fun k hk => mbL_get _ hk
  refine congrArg₂' ?_ (mkL_ext e2)
  refine mkL_ext fun k hk => ?_
  have e1 : (m7N g S g.nodes.length).getD k false = bitV S k := mbL_get _ hk
  unfold lsN
  show ((m7N g S g.nodes.length).getD k false || _) = (bitV S k || _)
  rw [e1]
  congr 1
  rw [Bool.eq_iff_iff, List.any_eq_true, List.any_eq_true]
  refine exists_congr fun j => and_congr_right fun hj => ?_
  show ((m7E g S g.edges.length).getD j false && _) = true ↔ (bitV S (g.nodes.length + j) && _) = true
  rw [e2 j (List.mem_range.1 hj)]
 rw [hLe] at hL
 have hrN : List.replicate g.nodes.length [B false] = rowsB (m7N g S 0) := by rw [m7N, mbL_zero]; unfold rowsB; rw [List.map_replicate]
 have hrE : List.replicate g.edges.length [B false] = rowsB (m7E g S 0) := by rw [m7E, mbL_zero]; unfold rowsB; rw [List.map_replicate]
 refine sB Tryz.func137 Tryz.ntmps137 ?_
 intro hbox htok
 simp only at hbox htok
 apply AL.start
 refine sR ?_
 simp
 refine sN ?_
 refine AL.region5 follows_Tryz (Nat.le_refl _) (by kernel_rfl) (Side.of (by simp)) ?_
 simp [FarM, FarN, NB, mks, lds, maker]
 refine ⟨by omega, by omega, ?_⟩
 try (simp)
 repeat (refine sR ?_; simp)
 refine sN ?_
 refine AL.loopT (stM7a g S nb box tok nt) (fun i => i ≤ g.nodes.length) (fun i => g.nodes.length - i) 0 (Nat.zero_le _) (Weaks.mk (Nat.le_refl _) rfl (by simp [ToL, lk]) (by simp [BoxL, lk, m7N, m7E, mbL_zero])) ?_
 rintro i S' hi hS
 simp only [stM7a] at hS
 subst hS
 have hw := sW (i := i) (by omega)
 have hln : (m7N g S i).length = g.nodes.length := mbL_len _ _ _
 try (simp)
 repeat (refine sR ?_; simp)
 refine sC ?_
 simp
 refine ⟨fun hlt => ?_, fun hge => ?_⟩
 ·have hst := mbL_set (bitV S) hlt
  have ht : (i : Int).tmod 64 = (i : Int) % 64 := Int.tmod_eq_emod_of_nonneg (by omega)
  have h0 : (0 : Int) ≤ (i : Int) % 64 := by omega
  try (simp [hlt, ht, h0])
  repeat (refine sR ?_; simp [hlt, ht, h0])
  have hbit : (IntKind.u64.wrap ((((S.fdiv (2 ^ min (((i : Int) % 64)).toNat IntKind.u64.bits) % 2 ^ IntKind.u64.bits).toNat &&& (1 % 2 ^ IntKind.u64.bits) : Nat) : Int)) == 1) = bitV S i := rfl
  simp only [hbit]
  try (simp [hw, hst])
  repeat (refine sR ?_; simp [hw, hst])
  refine sE ?_
  exact ⟨i + 1, hlt, by omega, Weaks.mk (Nat.le_refl _) rfl (by simp [ToL, lk]) (by simp [BoxL, lk, m7N, hst])⟩
 ·refine sX ?_
  simp only [AU, ↓reduceIte]
  have : i = g.nodes.length := by omega
  subst this
  try (simp)
  repeat (refine sR ?_; simp)
  refine sN ?_
  refine AL.loopT (stM7b g S nb box tok nt) (fun i => i ≤ g.edges.length) (fun i => g.edges.length - i) 0 (Nat.zero_le _) (Weaks.mk (Nat.le_refl _) rfl (by simp [ToL, lk]) (by simp [BoxL, lk])) ?_
  rintro i S' hi hS
  simp only [stM7b] at hS
  subst hS
  have hw := sW (i := i) (by omega)
  have hw2 : IntKind.i64.wrap ((g.nodes.length : Int) + ↑i) = ((g.nodes.length + i : Nat) : Int) := by rw [wrap_in (by omega) (by omega)]; simp
  have hle : (m7E g S i).length = g.edges.length := mbL_len _ _ _
  try (simp)
  repeat (refine sR ?_; simp)
  refine sC ?_
  simp
  refine ⟨fun hlt => ?_, fun hge => ?_⟩
  ·have hst := mbL_set (fun j => bitV S (g.nodes.length + j)) hlt
   have ht : ((g.nodes.length : Int) + (i : Int)).tmod 64 = ((g.nodes.length : Int) + (i : Int)) % 64 := Int.tmod_eq_emod_of_nonneg (by omega)
   have h0 : (0 : Int) ≤ ((g.nodes.length : Int) + (i : Int)) % 64 := by omega
   try (simp [hlt, hw2, ht, h0])
   repeat (refine sR ?_; simp [hlt, hw2, ht, h0])
   have hbit : (IntKind.u64.wrap ((((S.fdiv (2 ^ min ((((g.nodes.length : Int) + (i : Int)) % 64)).toNat IntKind.u64.bits) % 2 ^ IntKind.u64.bits).toNat &&& (1 % 2 ^ IntKind.u64.bits) : Nat) : Int)) == 1) = bitV S (g.nodes.length + i) := by
    unfold bitV
    rw [Int.natCast_add]
   simp only [hbit]
   try (simp [hw, hst])
   repeat (refine sR ?_; simp [hw, hst])
   refine sE ?_
   exact ⟨i + 1, hlt, by omega, Weaks.mk (Nat.le_refl _) rfl (by simp [ToL, lk]) (by simp [BoxL, lk, m7E, hst])⟩
  ·refine sX ?_
   simp only [AU, ↓reduceIte]
   have : i = g.edges.length := by omega
   subst this
   refine AL.weak (Weaks.frz (l' := [(6, .d (bls (m7E g S g.edges.length))), (5, .msl (nb + 12) 0 g.nodes.length 1), (2, .ptr (nb + 2) 0 0), (4, .ptr (nb + 4) 0 0)]) (loc' := [(12, rowsB (m7N g S g.nodes.length)), (2, [[.d (ints g.nodes), .d (AM.edges g.edges)]]), (4, [[nilS, nilS]])]) 16 1 (rB (m7E g S g.edges.length)) (Nat.le_refl _) rfl (by simp [lk, rowsB_eq, rB]) (by simp [lk]) (fun e he => by obtain ⟨b, _, rfl⟩ := List.mem_map.1 he; rfl) (by simp [ToL, lk, lb_at]; exact to_frzB hle) (by simp [BoxL, lk])) ?_
   have hln : (m7N g S g.nodes.length).length = g.nodes.length := mbL_len _ _ _
   refine AL.weak (Weaks.frz (l' := [(6, .d (bls (m7E g S g.edges.length))), (5, .d (bls (m7N g S g.nodes.length))), (2, .ptr (nb + 2) 0 0), (4, .ptr (nb + 4) 0 0)]) (loc' := [(2, [[.d (ints g.nodes), .d (AM.edges g.edges)]]), (4, [[nilS, nilS]])]) 12 1 (rB (m7N g S g.nodes.length)) (Nat.le_refl _) rfl (by simp [lk, rowsB_eq, rB]) (by simp [lk]) (fun e he => by obtain ⟨b, _, rfl⟩ := List.mem_map.1 he; rfl) (by simp [ToL, lk, lb_at]; exact to_frzB hln) (by simp [BoxL, lk])) ?_
   try (simp)
   repeat (refine sR ?_; simp)
   refine Stop.of_d (hL _ _) ?_
   simp
   try (simp)
   repeat (refine sR ?_; simp)
   refine sT ?_
   try simp only [AU]
   refine ⟨by simp, sF hbox htok (fun _ h => h) (Nat.le_refl _) ?_⟩
   simp [packA]
end Go.AM
namespace Go.AM
open Go Go.Proofs
set_option maxRecDepth 100000 in
theorem made34_c (x : Dx) (hx : x.U8) (tok : Tks) (nt : Nat) : DCall Tryz.prog 75 [x.av] tok nt (Sp.ru x.sp).av tok nt := by
 intro box nb
 have o := Dx.ok hx
 have hon := o.n
 have hoe := o.e
 have gf : x.g.Fit := ⟨by omega, by omega⟩
 have kl := o.k.len
 have kf : x.k.Fit := ⟨by omega, by omega⟩
 have ef : (exG x.g x.k).Fit := ⟨by simp [exG]; omega, by simp [exG]; omega⟩
 have h1 := made25_c x.dr hx.dr
 have h2 := made07_c x.g gf o.v x.keep
 have h3 := extract07_c x.g x.k gf kf o.k
 have h4 := grown10_c (exG x.g x.k) ef x.cs hx.cs (by simp [Dx.cs]; omega) (by simp [Dx.cs]) rfl
 have h5 := of34_c x.g x.right x.k (idM (exG x.g x.k))
 have hml := hx.ml
 have hnl := hx.nl
 have hel := hx.el
 have m1 : (min (x.left.nodes.length : Int) 3).toNat = min x.left.nodes.length 3 := by omega
 have m2 : (min (x.left.edges.length : Int) 3).toNat = min x.left.edges.length 3 := by omega
 have eav : x.dr.av = .agg [.d (.sl 1 (List.take (min x.left.nodes.length 3) (x.left.nodes.map fun n => [u8 n]))), .d (.sl 3 (List.take (min x.left.edges.length 3) (x.left.edges.map fun e => [u8 e.1, u8 e.2.1, u8 e.2.2])))] := by simp [Dx.dr, List.map_take]
 have eg : madeG x.dr = x.g := rfl
 rw [eav, eg] at h1
 have esp : (⟨x.g, x.right, x.k, idM (exG x.g x.k)⟩ : Sp) = x.sp := rfl
 rw [esp] at h5
 have m3 : (min (x.more.length : Int) 6).toNat = min x.more.length 6 := by omega
 have ecs : bytes x.cs = .sl 1 ([D.raw (.int .u8 255)] :: List.take (min x.more.length 6) (x.more.map fun n => [u8 n])) := by simp [Dx.cs, bytes, List.map_take]
 have er : gwG (exG x.g x.k) x.cs = x.right := rfl
 rw [ecs, er] at h4
 have ek : mad7 x.g x.keep = x.k := rfl
 rw [ek] at h2
 refine sB Tryz.func75 Tryz.ntmps75 ?_
 intro hbox htok
 simp only at hbox htok
 apply AL.start
 try (simp)
 repeat (refine sR ?_; simp)
 simp only [m1, m2]
 refine ⟨by omega, by omega, ?_⟩
 try (simp)
 repeat (refine sR ?_; simp)
 refine Stop.of_d (h1 _ _) ?_
 simp
 try (simp)
 repeat (refine sR ?_; simp)
 refine Stop.of_d (h2 _ _) ?_
 simp
 try (simp)
 repeat (refine sR ?_; simp)
 refine Stop.of_d (h3 _ _) ?_
 simp
 try (simp)
 repeat (refine sR ?_; simp)
 refine ⟨by omega, by omega, ?_⟩
 simp only [m3]
 refine Stop.data ?_
 refine Stop.of_d (h4 _ _) ?_
 simp
 try (simp)
 repeat (refine sR ?_; simp)
 refine Stop.of_d (h5 _ _) ?_
 simp
 try (simp)
 repeat (refine sR ?_; simp)
 have htk : TK tok nt (upd tok nt true) (nt + 1) [.tok nt] := ((TK.start htok).full).app
 refine sT ?_
 try simp only [AU]
 refine ⟨by simp, sF hbox htok htk.old htk.le ?_⟩
 simp [packA]
end Go.AM
namespace Go.AM
open Go Go.Proofs
structure CodeS (a b c : Int) : Prop where
 ra2 : a.tmod 2 = a % 2
 ra3 : a.tmod 3 = a % 3
 rb3 : b.tmod 3 = b % 3
 wb3 : IntKind.i64.wrap (b % 3) = b % 3
 qa8 : IntKind.u8.wrap (a.tdiv 8) = a / 8
 ra8 : (a / 8).tmod 2 = a / 8 % 2
 wa8 : IntKind.i64.wrap (a / 8 % 2) = a / 8 % 2
 qb4 : IntKind.u8.wrap (b.tdiv 4) = b / 4
 wb4 : IntKind.i64.wrap (b / 4) = b / 4
 rb4 : ∀ n : Nat, (b / 4).tmod n = b / 4 % n
 wc : IntKind.i64.wrap c = c
 rc : ∀ n : Nat, c.tmod n = c % n
theorem codeS {a b c : Int} (a0 : 0 ≤ a ∧ a < 256) (b0 : 0 ≤ b ∧ b < 256) (c0 : 0 ≤ c ∧ c < 256) : CodeS a b c := by
 have e : ∀ x k : Int, 0 ≤ x → x.tdiv k = x / k := fun x k h => Int.tdiv_eq_ediv_of_nonneg h
 refine ⟨Int.tmod_eq_emod_of_nonneg a0.1, Int.tmod_eq_emod_of_nonneg a0.1, Int.tmod_eq_emod_of_nonneg b0.1, wrap_in (by omega) (by omega), ?_, Int.tmod_eq_emod_of_nonneg (by omega), wrap_in (by omega) (by omega), ?_, wrap_in (by omega) (by omega), fun n => Int.tmod_eq_emod_of_nonneg (by omega), wrap_in (by omega) (by omega), fun n => Int.tmod_eq_emod_of_nonneg (by omega)⟩
 ·rw [e _ _ a0.1]; exact wrapU8 (by omega) (by omega)
 ·rw [e _ _ b0.1]; exact wrapU8 (by omega) (by omega)
structure AccS where
 i : Nat
 j : Nat
 o1 : Own
 o2 : Own
 tok : Nat → Bool
 nt : Nat
abbrev zRowS : List AV := [.d (.raw (.string ⟨#[]⟩)), nilS, nilS, nilS, I 0, nilS, nilS, nilS, nilS, I 0, nilS, nilS, nilS, nilS, nilS, B false, I 0, nilS, nilS, nilS, nilS, nilS, nilS, I 0, nilS]
def stSc (x : Scn) (nb : Nat) (box : Bxs) (y : AccS) : AState :=
 ⟨tl [(9, I y.i), (8, .ptr (nb + 8) 0 0), (7, .ptr (nb + 7) 0 0), (6, .ptr (nb + 6) 0 0), (4, .ptr (nb + 4) 0 0), (3, .ptr (nb + 3) 0 0), (2, .ptr (nb + 2) 0 0), (1, .ptr (nb + 1) 0 0)],
  lb nb box [(8, [[.d (ints (iota x.r.g.nodes.length)), .d (ints (iota x.r.g.edges.length))]]), (7, [[.osl 1 (rI (scK x.r.g x.more y.j).nodes) y.o1, .osl 3 (rE (scK x.r.g x.more y.j).edges) y.o2]]), (6, [x.r.sp.ru.row]),
   (1, [[.d (.sl 1 (x.r.left.nodes.map fun n => [u8 n])), .d (.sl 3 (x.r.left.edges.map fun e => [u8 e.1, u8 e.2.1, u8 e.2.2])), .d (u64 x.r.keep), .d (bytes x.r.more), .d (bytes x.codes), .d (bytes x.more)]]), (4, [[nilS, nilS]]), (3, [[nilS, nilS]]), (2, [zRowS])], y.tok, y.nt⟩
set_option maxRecDepth 100000 in
theorem scene34_c (x : Scn) (hx : x.U8) (tok : Tks) (nt : Nat) : DCall Tryz.prog 25 [x.av] tok nt (.tup [(Sp.ru x.r.sp).av, x.g.av, (idM x.r.g).av, B (decide (x.codes.length ≤ 12))]) tok nt := by
 intro box nb
 have o := Dx.ok hx.r
 have hon := o.n
 have hoe := o.e
 have gf : x.r.g.Fit := ⟨by omega, by omega⟩
 have h1 := made34_c x.r hx.r
 have h2 := copied_c x.r.g gf
 have h3 := of_c x.r.g gf
 have hml := hx.ml
 have hmu := hx.m
 refine sB Tryz.func25 Tryz.ntmps25 ?_
 intro hbox htok
 simp only at hbox htok
 apply AL.start
 try (simp)
 repeat (refine sR ?_; simp)
 refine Stop.of_d (h1 _ _) ?_
 simp
 try (simp)
 repeat (refine sR ?_; simp)
 refine Stop.of_d (h2 _ _) ?_
 simp
 refine Stop.of_d (h3 _ _) ?_
 simp
 try (simp)
 repeat (refine sR ?_; simp)
 refine sN ?_
 have htk0 : TK tok nt (upd (upd tok nt true) (nt + 1) true) (nt + 2) [.tok nt, .tok (nt + 1)] := ((TK.start htok).full.app.full.app.swap)
 refine AL.loopT (stSc x nb box) (fun y => y.i = 3 * y.j ∧ y.j ≤ scN x.more ∧ TK tok nt y.tok y.nt [y.o1, y.o2]) (fun y => 3 - y.j) ⟨0, 0, .tok nt, .tok (nt + 1), _, _⟩ ⟨rfl, Nat.zero_le _, htk0⟩ (Weaks.mk htk0.le rfl (by simp [ToL, lk]) (by simp [BoxL, lk, scK])) ?_
 clear htk0
 rintro ⟨i, j, o1, o2, tok1, nt1⟩ S ⟨hij, hj, htk⟩ hS
 simp only [stSc] at hS hij hj htk
 subst hS
 have hsn : scN x.more = min 3 (x.more.length / 3) := rfl
 have w1 := sW (i := i) (by omega)
 have w2 : IntKind.i64.wrap (↑i + 2) = ((i + 2 : Nat) : Int) := by rw [wrap_in (by omega) (by omega)]; rfl
 have w3 : IntKind.i64.wrap (↑i + 3) = ((i + 3 : Nat) : Int) := by rw [wrap_in (by omega) (by omega)]; rfl
 have hw := (scK_gw x.r.g x.more j).len
 by_cases hgo : j < scN x.more
 ·have hl2 : i + 2 < x.more.length := by omega
  have hl1 : i + 1 < x.more.length := by omega
  have hl0 : i < x.more.length := by omega
  have hl2' : (i : Int) + 2 < x.more.length := by omega
  have h9 : (i : Int) < 9 := by omega
  have hl1' : (i : Int) + 1 < x.more.length := by omega
  have p1 : (0 : Int) ≤ (i : Int) + 1 := by omega
  have p2 : (0 : Int) ≤ (i : Int) + 2 := by omega
  have t1 : ((i : Int) + 1).toNat = i + 1 := by omega
  have t2 : ((i : Int) + 2).toNat = i + 2 := by omega
  have g1 : x.more[i + 1]? = some x.more[i + 1] := List.getElem?_eq_getElem hl1
  have g2 : x.more[i + 2]? = some x.more[i + 2] := List.getElem?_eq_getElem hl2
  have hb0 := bytes_at hl0
  have hb1 := bytes_at hl1
  have hb2 := bytes_at hl2
  have hmore : scK x.r.g x.more (j + 1) = scS (scK x.r.g x.more j) x.more[i] x.more[i + 1] x.more[i + 2] := by
   rw [scK]
   congr 1 <;> (rw [List.getD_eq_getElem?_getD, List.getElem?_eq_getElem (by omega)]; simp [hij])
  have a0 := hmu _ (List.getElem_mem hl0)
  have b0 := hmu _ (List.getElem_mem hl1)
  have c0 := hmu _ (List.getElem_mem hl2)
  have C := codeS a0 b0 c0
  obtain ⟨N, M, hNM⟩ : ∃ N M, scK x.r.g x.more j = ⟨N, M⟩ := ⟨_, _, rfl⟩
  obtain ⟨N2, M2, hNM2⟩ : ∃ N2 M2, scK x.r.g x.more (j + 1) = ⟨N2, M2⟩ := ⟨_, _, rfl⟩
  rw [hNM] at hw hmore ⊢
  rw [hNM2] at hmore
  simp only [scS, Gr.mk.injEq] at hmore
  obtain ⟨hN, hE⟩ := hmore
  simp only at hw
  try (simp [hl2', h9, w2])
  repeat (refine sR ?_; simp [hl2', h9, w2])
  refine sC ?_
  simp [hl2', h9]
  by_cases ev : x.more[i] % 2 = 0
  ·rw [if_pos ev] at hN hE
   try (simp [hl0, hb0, C.ra2, ev])
   repeat (refine sR ?_; simp [hl0, hb0, C.ra2, ev])
   refine sC ?_
   simp [C.ra2, ev]
   try (simp [w1, hl1', p1, t1, g1, C.rb3, C.wb3])
   repeat (refine sR ?_; simp [w1, hl1', p1, t1, g1, C.rb3, C.wb3])
   refine ⟨⟨by omega, htk.live⟩, ?_⟩
   have hrI : rI N ++ [[D.raw (.int .i64 (x.more[i + 1] % 3))]] = rI N2 := by rw [hN]; simp [rI]
   rw [← hN] at hE
   have hl : N2.length ≤ N.length + 1 := by rw [hN]; simp
   simp only [hrI]
   have htk2 : TK tok nt (upd (o1.kill tok1) nt1 true) (nt1 + 1) [.tok nt1, o2] := htk.app
   by_cases hn0 : 0 < N2.length
   ·have hn0' : (0 : Int) < N2.length := by omega
    have hnz : ¬ (N2.length : Int) = 0 := by omega
    have hnz2 : ¬ N2 = [] := fun h => by rw [h] at hn0; simp at hn0
    have r4 := C.rb4 N2.length
    have rc := C.rc N2.length
    by_cases ha3 : 0 < x.more[i] % 3
    ·rw [if_pos ⟨hn0, ha3⟩] at hE
     try (simp [hn0', hn0, hnz, hnz2, hl0, hb0, C.ra3, ha3])
     repeat (refine sR ?_; simp [hn0', hn0, hnz, hnz2, hl0, hb0, C.ra3, ha3])
     refine sC ?_
     simp [hn0', hn0, hnz, hnz2, hl0, hb0, C.ra3, ha3]
     try (simp [hl0, hl1', hl2', p1, p2, t1, t2, g1, g2, hb0, w1, w2, C.qa8, C.ra8, C.wa8, C.qb4, C.wb4, r4, C.wc, rc, hnz, hnz2, hn0'])
     repeat (refine sR ?_; simp [hl0, hl1', hl2', p1, p2, t1, t2, g1, g2, hb0, w1, w2, C.qa8, C.ra8, C.wa8, C.qb4, C.wb4, r4, C.wc, rc, hnz, hnz2, hn0'])
     refine ⟨⟨by omega, htk2.swap.live⟩, ?_⟩
     try (simp [w3])
     repeat (refine sR ?_; simp [w3])
     refine sE ?_
     refine ⟨⟨i + 3, j + 1, .tok nt1, .tok (nt1 + 1), upd (o2.kill (upd (o1.kill tok1) nt1 true)) (nt1 + 1) true, nt1 + 1 + 1⟩, ⟨by simp only; omega, by simp only; omega, htk2.swap.app.swap⟩, by simp only; omega, ?_⟩
     simp only [stSc, hNM2]
     exact Weaks.mk htk2.swap.app.swap.le rfl (by simp [ToL, lk, w3]) (by simp [BoxL, lk, hE, rE])
    ·rw [if_neg fun h => ha3 h.2] at hE
     try (simp [hn0', hn0, hnz, hnz2, hl0, hb0, C.ra3, ha3])
     repeat (refine sR ?_; simp [hn0', hn0, hnz, hnz2, hl0, hb0, C.ra3, ha3])
     refine sC ?_
     simp [hn0', hn0, hnz, hnz2, hl0, hb0, C.ra3, ha3]
     try (simp [w3])
     repeat (refine sR ?_; simp [w3])
     refine sE ?_
     refine ⟨⟨i + 3, j + 1, .tok nt1, o2, upd (o1.kill tok1) nt1 true, nt1 + 1⟩, ⟨by simp only; omega, by simp only; omega, htk2⟩, by simp only; omega, ?_⟩
     simp only [stSc, hNM2]
     exact Weaks.mk htk2.le rfl (by simp [ToL, lk, w3]) (by simp [BoxL, lk, hE])
   ·rw [if_neg fun h => hn0 h.1] at hE
    have hz : N2 = [] := List.length_eq_zero_iff.1 (by omega)
    try (simp [hz, hn0])
    repeat (refine sR ?_; simp [hz, hn0])
    refine sC ?_
    simp [hz, hn0]
    try (simp [w3])
    repeat (refine sR ?_; simp [w3])
    refine sE ?_
    refine ⟨⟨i + 3, j + 1, .tok nt1, o2, upd (o1.kill tok1) nt1 true, nt1 + 1⟩, ⟨by simp only; omega, by simp only; omega, htk2⟩, by simp only; omega, ?_⟩
    simp only [stSc, hNM2]
    exact Weaks.mk htk2.le rfl (by simp [ToL, lk, w3]) (by simp [BoxL, lk, hE, hz])
  ·rw [if_neg ev] at hN hE
   try (simp [hl0, hb0, C.ra2, ev])
   repeat (refine sR ?_; simp [hl0, hb0, C.ra2, ev])
   refine sC ?_
   simp [C.ra2, ev]
   rw [← hN] at hE
   have hl : N2.length ≤ N.length + 1 := by rw [hN]; omega
   rw [← hN]
   have htk2 : TK tok nt (tok1) (nt1) [o1, o2] := htk
   by_cases hn0 : 0 < N2.length
   ·have hn0' : (0 : Int) < N2.length := by omega
    have hnz : ¬ (N2.length : Int) = 0 := by omega
    have hnz2 : ¬ N2 = [] := fun h => by rw [h] at hn0; simp at hn0
    have r4 := C.rb4 N2.length
    have rc := C.rc N2.length
    by_cases ha3 : 0 < x.more[i] % 3
    ·rw [if_pos ⟨hn0, ha3⟩] at hE
     try (simp [hn0', hn0, hnz, hnz2, hl0, hb0, C.ra3, ha3])
     repeat (refine sR ?_; simp [hn0', hn0, hnz, hnz2, hl0, hb0, C.ra3, ha3])
     refine sC ?_
     simp [hn0', hn0, hnz, hnz2, hl0, hb0, C.ra3, ha3]
     try (simp [hl0, hl1', hl2', p1, p2, t1, t2, g1, g2, hb0, w1, w2, C.qa8, C.ra8, C.wa8, C.qb4, C.wb4, r4, C.wc, rc, hnz, hnz2, hn0'])
     repeat (refine sR ?_; simp [hl0, hl1', hl2', p1, p2, t1, t2, g1, g2, hb0, w1, w2, C.qa8, C.ra8, C.wa8, C.qb4, C.wb4, r4, C.wc, rc, hnz, hnz2, hn0'])
     refine ⟨⟨by omega, htk2.swap.live⟩, ?_⟩
     try (simp [w3])
     repeat (refine sR ?_; simp [w3])
     refine sE ?_
     refine ⟨⟨i + 3, j + 1, o1, .tok (nt1), upd (o2.kill (tok1)) (nt1) true, nt1 + 1⟩, ⟨by simp only; omega, by simp only; omega, htk2.swap.app.swap⟩, by simp only; omega, ?_⟩
     simp only [stSc, hNM2]
     exact Weaks.mk htk2.swap.app.swap.le rfl (by simp [ToL, lk, w3]) (by simp [BoxL, lk, hE, rE])
    ·rw [if_neg fun h => ha3 h.2] at hE
     try (simp [hn0', hn0, hnz, hnz2, hl0, hb0, C.ra3, ha3])
     repeat (refine sR ?_; simp [hn0', hn0, hnz, hnz2, hl0, hb0, C.ra3, ha3])
     refine sC ?_
     simp [hn0', hn0, hnz, hnz2, hl0, hb0, C.ra3, ha3]
     try (simp [w3])
     repeat (refine sR ?_; simp [w3])
     refine sE ?_
     refine ⟨⟨i + 3, j + 1, o1, o2, tok1, nt1⟩, ⟨by simp only; omega, by simp only; omega, htk2⟩, by simp only; omega, ?_⟩
     simp only [stSc, hNM2]
     exact Weaks.mk htk2.le rfl (by simp [ToL, lk, w3]) (by simp [BoxL, lk, hE])
   ·rw [if_neg fun h => hn0 h.1] at hE
    have hz : N2 = [] := List.length_eq_zero_iff.1 (by omega)
    try (simp [hz, hn0])
    repeat (refine sR ?_; simp [hz, hn0])
    refine sC ?_
    simp [hz, hn0]
    try (simp [w3])
    repeat (refine sR ?_; simp [w3])
    refine sE ?_
    refine ⟨⟨i + 3, j + 1, o1, o2, tok1, nt1⟩, ⟨by simp only; omega, by simp only; omega, htk2⟩, by simp only; omega, ?_⟩
    simp only [stSc, hNM2]
    exact Weaks.mk htk2.le rfl (by simp [ToL, lk, w3]) (by simp [BoxL, lk, hE, hz])
 ·have hj3 : j = scN x.more := by omega
  subst hj3
  have hd : decide ((x.codes.length : Int) ≤ 12) = decide (x.codes.length ≤ 12) := decide_eq_decide.2 (by omega)
  have hG : x.g = scK x.r.g x.more (scN x.more) := rfl
  rw [hG]
  by_cases h9 : (i : Int) < 9
  ·have hl2' : ¬ (i : Int) + 2 < x.more.length := by omega
   try (simp [hl2', h9, w2])
   repeat (refine sR ?_; simp [hl2', h9, w2])
   refine sC ?_
   simp [hl2', h9]
   refine sX ?_
   simp only [AU, ↓reduceIte]
   refine sN ?_
   refine AL.region2 follows_Tryz (Nat.le_refl _) (by kernel_rfl) (Side.of (by simp)) ?_
   simp
   refine sT ?_
   try simp only [AU]
   refine ⟨by simp, sF hbox htok htk.old htk.le ?_⟩
   simp [packA, idM, hd]
  ·by_cases hl2' : (i : Int) + 2 < x.more.length
   ·try (simp [hl2', h9, w2])
    repeat (refine sR ?_; simp [hl2', h9, w2])
    refine sC ?_
    simp [hl2', h9]
    refine sX ?_
    simp only [AU, ↓reduceIte]
    refine sN ?_
    refine AL.region2 follows_Tryz (Nat.le_refl _) (by kernel_rfl) (Side.of (by simp)) ?_
    simp
    refine sT ?_
    try simp only [AU]
    refine ⟨by simp, sF hbox htok htk.old htk.le ?_⟩
    simp [packA, idM, hd]
   ·try (simp [hl2', h9, w2])
    repeat (refine sR ?_; simp [hl2', h9, w2])
    refine sC ?_
    simp [hl2', h9]
    refine sX ?_
    simp only [AU, ↓reduceIte]
    refine sN ?_
    refine AL.region2 follows_Tryz (Nat.le_refl _) (by kernel_rfl) (Side.of (by simp)) ?_
    simp
    refine sT ?_
    try simp only [AU]
    refine ⟨by simp, sF hbox htok htk.old htk.le ?_⟩
    simp [packA, idM, hd]
end Go.AM
namespace Go.AM
open Go Go.Proofs
theorem danglingP_c (l g : Gr) (keep m : Mo) (hl : l.Fit) (hg : g.Fit) (hm : m.Fit) (hk : keep.Fit) (he : Emb l g m) (hp : VP l keep) (tok : Tks) (nt : Nat) :
  DCall Tryz.prog 31 [l.av, g.av, keep.av, m.av] tok nt (.tup [.d (ints (dangI g keep m g.edges.length)), I 0]) tok nt := by
 intro box nb
 have h1 := cgiven_c l g keep m hl hg hm hk
 rw [he.v, hp.v] at h1
 have hd := cdangling_c l g keep m hg hm hk
 refine sB Tryz.func31 Tryz.ntmps31 ?_
 intro hbox htok
 simp only at hbox htok
 apply AL.start
 try (simp)
 repeat (refine sR ?_; simp)
 refine Stop.of_d (h1 _ _) ?_
 simp
 try (simp)
 repeat (refine sR ?_; simp)
 refine sC ?_
 simp
 try (simp)
 repeat (refine sR ?_; simp)
 refine Stop.of_d (hd _ _) ?_
 simp
 try (simp)
 repeat (refine sR ?_; simp)
 refine sT ?_
 try simp only [AU]
 refine ⟨by simp, sF hbox htok (fun _ h => h) (Nat.le_refl _) ?_⟩
 simp [packA]
end Go.AM
