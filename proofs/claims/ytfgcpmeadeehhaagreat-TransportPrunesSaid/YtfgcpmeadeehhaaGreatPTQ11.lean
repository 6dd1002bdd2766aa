/-
 Parts of the proof, as merged from many texts: a machine over data, what the functions compute, plain laws.
-/
import Derived.Test.YtfgcpmeadeehhaaGreatPTQ10
import Derived.WalkKit
import Derived.Deep.LoopGhost
import Derived.Deep.AppendLies
import Derived.Laws.AppendOwnNone
import Derived.Deep.RegionHeld3
set_option linter.unusedSimpArgs false
set_option linter.unusedVariables false
namespace Go.AM
open Go
structure Lyr (nl nr ng nh : Nat) (m n : Nat → Nat) (K F : Nat → Nat → Prop) : Prop where
 f1 : ∀ b c c', F b c → F b c' → c = c'
 f2 : ∀ b b' c, F b c → F b' c → b = b'
 d : ∀ b, b < ng → ((∃ c, F b c) ↔ ¬ ∃ a, a < nl ∧ m a = b ∧ ¬ ∃ a', K a a')
 r : ∀ c, c < nh → ((∃ b, F b c) ↔ ¬ ∃ a, a < nr ∧ n a = c ∧ ¬ ∃ a', K a' a)
 k : ∀ a a', K a a' → F (m a) (n a')
 fr : ∀ b c, F b c → b < ng ∧ c < nh
 kr : ∀ a a', K a a' → a < nl ∧ a' < nr
 mr : ∀ a, a < nl → m a < ng
 nr' : ∀ a, a < nr → n a < nh
 mi : ∀ a a', a < nl → a' < nl → m a = m a' → a = a'
 ni : ∀ a a', a < nr → a' < nr → n a = n a' → a = a'
theorem Lyr.symm {nl nr ng nh : Nat} {m n : Nat → Nat} {K F : Nat → Nat → Prop} (h : Lyr nl nr ng nh m n K F) : Lyr nr nl nh ng n m (fun a b => K b a) (fun a b => F b a) :=
 ⟨fun b c c' h1 h2 => h.f2 _ _ _ h1 h2, fun b b' c h1 h2 => h.f1 _ _ _ h1 h2, h.r, h.d, fun a a' hk => h.k _ _ hk, fun b c hf => (h.fr _ _ hf).symm, fun a a' hk => (h.kr _ _ hk).symm, h.nr', h.mr, h.ni, h.mi⟩
section
variable {nl nr ny nx ng nh : Nat} {p a m n q' : Nat → Nat} {K J F : Nat → Nat → Prop}
end
def atN (l : List Int) (i : Nat) : Nat := (l.getD i 0).toNat
theorem atN_int {l : List Int} {n i : Nat} (hr : ∀ x ∈ l, 0 ≤ x ∧ x < n) (hi : i < l.length) : ((atN l i : Nat) : Int) = l.getD i 0 ∧ atN l i < n := by
 have := hr _ (getD_mem (d := 0) hi)
 unfold atN
 omega
structure Stp (l r g h : Gr) (m n : Mo) (KN KE FN FE : Nat → Nat → Prop) : Prop where
 em : Emb l g m
 en : Emb r h n
 ln : Lyr l.nodes.length r.nodes.length g.nodes.length h.nodes.length (atN m.nodes) (atN n.nodes) KN FN
 le : Lyr l.edges.length r.edges.length g.edges.length h.edges.length (atN m.edges) (atN n.edges) KE FE
 ty : ∀ b c, FN b c → g.nodes.getD b 0 = h.nodes.getD c 0
 te : ∀ e f, FE e f → (g.edges.getD e default).ty = (h.edges.getD f default).ty ∧ FN (g.edges.getD e default).fr.toNat (h.edges.getD f default).fr.toNat ∧ FN (g.edges.getD e default).to.toNat (h.edges.getD f default).to.toNat
theorem Stp.symm {l r g h : Gr} {m n : Mo} {KN KE FN FE : Nat → Nat → Prop} (s : Stp l r g h m n KN KE FN FE) : Stp r l h g n m (fun a b => KN b a) (fun a b => KE b a) (fun a b => FN b a) (fun a b => FE b a) :=
 ⟨s.en, s.em, s.ln.symm, s.le.symm, fun b c hf => (s.ty _ _ hf).symm, fun e f hf => have := s.te _ _ hf; ⟨this.1.symm, this.2⟩⟩
theorem Emb.at {a b : Gr} {m : Mo} (h : Emb a b m) {i : Nat} (hi : i < a.nodes.length) : ((atN m.nodes i : Nat) : Int) = m.nodes.getD i 0 ∧ atN m.nodes i < b.nodes.length := atN_int h.vm.n (by rw [h.vm.ln]; exact hi)
theorem Emb.an {a b : Gr} {m : Mo} (h : Emb a b m) {i : Nat} (hi : i < a.nodes.length) : b.nodes.getD (atN m.nodes i) 0 = a.nodes.getD i 0 := h.vm.nt i hi
end Go.AM
namespace Go.AM
open Go
end Go.AM
namespace Go.AM
open Go Go.Proofs Go.ChangeShapes
def Rdr.arr3 {P : Program} {T A : TypeId} {α : Type} (r : Rdr P A α) (h : P.underlying T = some (.array 3 A)) (hc : P.cellsOf T = P.cellsOf A + P.cellsOf A + P.cellsOf A) : Rdr P T (α × α × α) where
 enc x := r.enc x.1 ++ (r.enc x.2.1 ++ r.enc x.2.2)
 ok x := r.ok x.1 ∧ r.ok x.2.1 ∧ r.ok x.2.2
 len x := by simp [r.len, hc]; omega
 sound e w base spare held fuel cs x hx := by
  obtain ⟨xs, n, rfl, rfl, hl, hxs, hat⟩ := DataW.trod_array h hx
  have g0 := hat 0 (by decide)
  have g1 := hat 1 (by decide)
  have g2 := hat 2 (by decide)
  have e0 : xs[0]? = some (xs[0]'(by omega)) := List.getElem?_eq_getElem (by omega)
  have e1 : xs[1]? = some (xs[1]'(by omega)) := List.getElem?_eq_getElem (by omega)
  have e2 : xs[2]? = some (xs[2]'(by omega)) := List.getElem?_eq_getElem (by omega)
  rw [e0, Nat.zero_mul] at g0
  rw [e1, Nat.one_mul] at g1
  rw [e2, show 2 * P.cellsOf A = P.cellsOf A + P.cellsOf A by omega] at g2
  obtain ⟨y, k1, k2⟩ := r.sound e w base spare held n _ _ g0
  obtain ⟨z, m1, m2⟩ := r.sound e w base spare held n _ _ g1
  obtain ⟨q, p1, p2⟩ := r.sound e w base spare held n _ _ g2
  refine ⟨(y, z, q), ?_, fun hli => ?_⟩
  rotate_left
  ·unfold Light at hli k2 m2 p2
   have e2 : xs = [xs[0]'(by omega), xs[1]'(by omega), xs[2]'(by omega)] := list3 hxs
   rw [e2] at hli
   simp only [List.map_cons, List.map_nil, DataW.weights, h, DataW.weightsAll, List.all_append, Bool.and_eq_true] at hli
   exact ⟨k2 hli.1, m2 hli.2.1, p2 hli.2.2.1⟩
  have hcs : cs = (cs.drop 0).take (P.cellsOf A) ++ ((cs.drop (P.cellsOf A)).take (P.cellsOf A) ++ (cs.drop (P.cellsOf A + P.cellsOf A)).take (P.cellsOf A)) := by
   have : (cs.drop (P.cellsOf A + P.cellsOf A)).take (P.cellsOf A) = cs.drop (P.cellsOf A + P.cellsOf A) := List.take_of_length_le (by simp; omega)
   rw [this, ← List.drop_drop, List.take_append_drop, List.drop_zero, List.take_append_drop]
  rw [hcs]
  exact k1.append (m1.append p1)
def rdB : Rdr Tryz.prog 5 Int := Rdr.int (k := .u8) Tryz.underlying5 (by kernel_rfl)
theorem rdB_ok {n : Int} (h : (Lit.int .u8 n).wf = true) : 0 ≤ n ∧ n < 256 := by
 simp [Lit.wf, IntKind.min, IntKind.max, IntKind.signed, IntKind.bits] at h
 omega
def rdBs : Rdr Tryz.prog 56 (List Int) := rdB.sliceN 1 Tryz.underlying56 (by kernel_rfl) (by kernel_rfl)
theorem rdBs_ok {l : List Int} (h : rdBs.ok l) : U8s l := fun c hc => rdB_ok (h.1 c hc)
def rdB3 : Rdr Tryz.prog 215 (Int × Int × Int) := rdB.arr3 Tryz.underlying215 (by kernel_rfl)
def rdB3s : Rdr Tryz.prog 57 (List (Int × Int × Int)) := rdB3.sliceN 3 Tryz.underlying57 (by kernel_rfl) (by kernel_rfl)
def rdDraft0 : Rdr Tryz.prog 59 (List Int × List (Int × Int × Int)) := Rdr.struct2 rdBs rdB3s Tryz.underlying59 rfl rfl rfl (by kernel_rfl) (by kernel_rfl)
abbrev Ch.cells (x : Ch) : List D := [.sl 1 (x.a.nodes.map fun n => [u8 n]), .sl 3 (x.a.edges.map fun e => [u8 e.1, u8 e.2.1, u8 e.2.2]), bytes x.b, bytes x.g, bytes x.c]
end Go.AM
namespace Go.AM
open Go Go.Proofs Go.ChangeShapes
structure Dx where
 left : Dr
 keep : Int
 more : List Int
structure Dx.U8 (x : Dx) : Prop where
 l : x.left.U8
 m : U8s x.more
 ml : x.more.length ≤ 200000000000000
 nl : x.left.nodes.length ≤ 200000000000000
 el : x.left.edges.length ≤ 200000000000000
structure Scn where
 r : Dx
 codes : List Int
 more : List Int
structure Scn.U8 (x : Scn) : Prop where
 r : x.r.U8
 c : U8s x.codes
 m : U8s x.more
 ml : x.more.length ≤ 200000000000000
abbrev u64 (n : Int) : D := .raw (.int .u64 n)
abbrev Dx.cells (x : Dx) : List D := [.sl 1 (x.left.nodes.map fun n => [u8 n]), .sl 3 (x.left.edges.map fun e => [u8 e.1, u8 e.2.1, u8 e.2.2]), u64 x.keep, bytes x.more]
abbrev Scn.cells (x : Scn) : List D := [.sl 1 (x.r.left.nodes.map fun n => [u8 n]), .sl 3 (x.r.left.edges.map fun e => [u8 e.1, u8 e.2.1, u8 e.2.2]), u64 x.r.keep, bytes x.r.more, bytes x.codes, bytes x.more]
abbrev Dx.av (x : Dx) : AV := .agg [.d (.sl 1 (x.left.nodes.map fun n => [u8 n])), .d (.sl 3 (x.left.edges.map fun e => [u8 e.1, u8 e.2.1, u8 e.2.2])), .d (u64 x.keep), .d (bytes x.more)]
abbrev Scn.av (x : Scn) : AV := .agg [.d (.sl 1 (x.r.left.nodes.map fun n => [u8 n])), .d (.sl 3 (x.r.left.edges.map fun e => [u8 e.1, u8 e.2.1, u8 e.2.2])), .d (u64 x.r.keep), .d (bytes x.r.more), .d (bytes x.codes), .d (bytes x.more)]
def rdU64 : Rdr Tryz.prog 60 Int := Rdr.int (k := .u64) Tryz.underlying60 (by kernel_rfl)
theorem by_u8 : Tryz.prog.bytesOf 5 = 1 := by kernel_rfl
theorem by_u83 : Tryz.prog.bytesOf 215 = 3 := by kernel_rfl
theorem rdBs_len {l : List Int} (h : rdBs.ok l) : l.length ≤ 200000000000000 := by
 have h2 : l.length * Tryz.prog.bytesOf 5 ≤ reachBytes := h.2
 rw [by_u8] at h2
 have : reachBytes = 140737488351232 := rfl
 omega
theorem rdB3s_len {l : List (Int × Int × Int)} (h : rdB3s.ok l) : l.length ≤ 200000000000000 := by
 have h2 : l.length * Tryz.prog.bytesOf 215 ≤ reachBytes := h.2
 rw [by_u83] at h2
 have : reachBytes = 140737488351232 := rfl
 omega
def rdDr0 : Rdr Tryz.prog 59 Dr := rdDraft0.map (fun x => ⟨x.1, x.2⟩) (fun x => [.sl 1 (x.nodes.map fun n => [u8 n]), .sl 3 (x.edges.map fun e => [u8 e.1, u8 e.2.1, u8 e.2.2])]) (fun x => x.U8 ∧ x.nodes.length ≤ 200000000000000 ∧ x.edges.length ≤ 200000000000000) (fun _ => rfl)
 (fun x h => ⟨⟨fun k hk => rdB_ok (h.1.1 k hk), fun k hk => ⟨rdB_ok (h.2.1 k hk).1, rdB_ok (h.2.1 k hk).2.1, rdB_ok (h.2.1 k hk).2.2⟩⟩, rdBs_len h.1, rdB3s_len h.2⟩) (fun _ => by kernel_rfl)
def rdDx0 : Rdr Tryz.prog 62 (Dr × Int × List Int) := Rdr.struct3 rdDr0 rdU64 rdBs Tryz.underlying62 rfl rfl rfl rfl (by kernel_rfl) (by kernel_rfl) (by kernel_rfl)
def rdDx : Rdr Tryz.prog 62 Dx := rdDx0.map (fun x => ⟨x.1, x.2.1, x.2.2⟩) Dx.cells Dx.U8 (fun _ => rfl) (fun x h => ⟨h.1.1, rdBs_ok h.2.2, rdBs_len h.2.2, h.1.2.1, h.1.2.2⟩) (fun _ => by kernel_rfl)
def rdScn0 : Rdr Tryz.prog 64 (Dx × List Int × List Int) := Rdr.struct3 rdDx rdBs rdBs Tryz.underlying64 rfl rfl rfl rfl (by kernel_rfl) (by kernel_rfl) (by kernel_rfl)
def rdScn : Rdr Tryz.prog 64 Scn := rdScn0.map (fun x => ⟨x.1, x.2.1, x.2.2⟩) Scn.cells Scn.U8 (fun _ => rfl) (fun x h => ⟨h.1, rdBs_ok h.2.1, rdBs_ok h.2.2, rdBs_len h.2.2⟩) (fun _ => by kernel_rfl)
set_option maxRecDepth 100000 in
theorem arg_scene {ps : Array TypeId} {args : Array Value} {W : World} {base base' : Nat} {sp : Nat → Bool} {held : Bool} {H : Type} {enc : TypeId × Value → H} (hval : ∀ (j : Nat) t v, ps[j]? = some t → args[j]? = some v → Value.okWide Tryz.prog W .any base t v)
  (j : Nat) (v : Value) (hp : ps[j]? = some 64) (ha : args[j]? = some v) {d : DataW H} {p : List MemPlace} (h : DataW.Trod enc Tryz.prog W base' sp held 64 v d p) (hli : Light Tryz.prog 64 d) : ∃ x : Scn, x.U8 ∧ RV G0 W x.av v :=
 Exists.elim (arg_agg hval j 64 v hp ha rdScn aggT_64 h hli) fun x hx => ⟨x, hx.1, hx.2⟩
def bitV (S : Int) (j : Nat) : Bool := (IntKind.u64.wrap ((((S.fdiv (2 ^ min (((j : Int) % 64)).toNat IntKind.u64.bits) % 2 ^ IntKind.u64.bits).toNat &&& (1 % 2 ^ IntKind.u64.bits) : Nat) : Int)) == 1)
def Dx.dr (x : Dx) : Dr := ⟨x.left.nodes.take (min x.left.nodes.length 3), x.left.edges.take (min x.left.edges.length 3)⟩
def Dx.g (x : Dx) : Gr := madeG x.dr
def mad7 (g : Gr) (S : Int) : Mo := lstP g (bitV S) (fun j => bitV S (g.nodes.length + j))
def Dx.k (x : Dx) : Mo := mad7 x.g x.keep
def Dx.cs (x : Dx) : List Int := 255 :: x.more.take (min x.more.length 6)
def Dx.right (x : Dx) : Gr := gwG (exG x.g x.k) x.cs
def Dx.sp (x : Dx) : Sp := ⟨x.g, x.right, x.k, idM (exG x.g x.k)⟩
def scS (g : Gr) (a b c : Int) : Gr :=
 ⟨if a % 2 = 0 then g.nodes ++ [b % 3] else g.nodes, if 0 < (if a % 2 = 0 then g.nodes ++ [b % 3] else g.nodes).length ∧ 0 < a % 3 then g.edges ++ [⟨a / 8 % 2, b / 4 % (if a % 2 = 0 then g.nodes ++ [b % 3] else g.nodes).length, c % (if a % 2 = 0 then g.nodes ++ [b % 3] else g.nodes).length⟩] else g.edges⟩
def scK (g : Gr) (cs : List Int) : Nat → Gr
 | 0 => g
 | j + 1 => scS (scK g cs j) (cs.getD (3 * j) 0) (cs.getD (3 * j + 1) 0) (cs.getD (3 * j + 2) 0)
def scN (cs : List Int) : Nat := min 3 (cs.length / 3)
def Scn.g (x : Scn) : Gr := scK x.r.g x.more (scN x.more)
theorem scS_gw {l g : Gr} {n m : Nat} (h : Gw l g n m) (a b c : Int) : Gw l (scS g a b c) (n + 1) (m + 1) := by
 have key : ∀ N : List Int, Gw l ⟨N, g.edges⟩ (n + 1) m → Gw l ⟨N, if 0 < N.length ∧ 0 < a % 3 then g.edges ++ [⟨a / 8 % 2, b / 4 % N.length, c % N.length⟩] else g.edges⟩ (n + 1) (m + 1) := fun N hN => by
  split
  ·rename_i hc
   have hnz : (N.length : Int) ≠ 0 := by omega
   have hp : (0 : Int) < N.length := by omega
   exact hN.edge ⟨by simp only; omega, by simp only; omega⟩ ⟨Int.emod_nonneg _ hnz, Int.emod_lt_of_pos _ hp⟩ ⟨Int.emod_nonneg _ hnz, Int.emod_lt_of_pos _ hp⟩
  ·exact hN.mono (Nat.le_refl _) (Nat.le_succ _)
 refine key _ ?_
 split
 ·exact h.node (by omega)
 ·exact h.mono (Nat.le_succ _) (Nat.le_refl _)
theorem scK_gw (g : Gr) (cs : List Int) : ∀ j, Gw g (scK g cs j) j j
 | 0 => Gw.refl g
 | j + 1 => scS_gw (scK_gw g cs j) _ _ _
structure Dx.Ok (x : Dx) : Prop where
 v : validG x.g = 0
 i : InK x.g
 n : x.g.nodes.length ≤ 3
 e : x.g.edges.length ≤ 3
 k : VP x.g x.k
 w : Gw (exG x.g x.k) x.right 4 8
theorem Dx.U8.dr {x : Dx} (h : x.U8) : x.dr.U8 := ⟨fun k hk => h.l.n k (List.mem_of_mem_take hk), fun k hk => h.l.e k (List.mem_of_mem_take hk)⟩
theorem Dx.U8.cs {x : Dx} (h : x.U8) : U8s x.cs := fun k hk => by
 rcases List.mem_cons.1 hk with rfl | hk
 ·exact ⟨by decide, by decide⟩
 ·exact h.m k (List.mem_of_mem_take hk)
theorem Dx.ok {x : Dx} (h : x.U8) : x.Ok := by
 have hv := madeG_valid h.dr
 have hl : x.g.nodes.length ≤ 3 ∧ x.g.edges.length ≤ 3 := by
  refine ⟨by simp only [Dx.g, Dx.dr, madeG, mN_len, List.length_take]; omega, ?_⟩
  have hl : x.dr.edges.length ≤ 3 := by simp only [Dx.dr, List.length_take]; omega
  simp only [Dx.g, madeG]
  by_cases h0 : x.dr.nodes.length = 0
  ·rw [if_pos h0]; simp
  ·rw [if_neg h0]; simp only [mE_len]; omega
 exact ⟨hv, madeG_in _, hl.1, hl.2, lstP_vp hv, gwG_gw _ _⟩
structure Stg (s : Sp) (g : Gr) : Prop where
 k : VP s.l s.k
 i : s.i = idM (exG s.l s.k)
 kr : Pre (exG s.l s.k) s.r
 lg : Pre s.l g
 n : s.l.nodes.length ≤ 3
 e : s.l.edges.length ≤ 3
 rn : s.r.nodes.length ≤ 7
 re : s.r.edges.length ≤ 11
 gn : g.nodes.length ≤ 6
 ge : g.edges.length ≤ 6
theorem Scn.stg {x : Scn} (h : x.U8) : Stg x.r.sp x.g ∧ InK x.r.g ∧ InK x.r.right ∧ InK x.g := by
 have o := Dx.ok h.r
 have hk := o.k.len
 have he : (exG x.r.g x.r.k).nodes.length = x.r.k.nodes.length ∧ (exG x.r.g x.r.k).edges.length = x.r.k.edges.length := by simp [exG]
 have w := o.w.len
 have hw2 := scK_gw x.r.g x.more (scN x.more)
 have hs : scN x.more ≤ 3 := Nat.min_le_left _ _
 have w2 := hw2.len
 have hon := o.n
 have hoe := o.e
 refine ⟨⟨o.k, rfl, o.w.pre o.k.emb.vm.va (by omega) (by omega), hw2.pre o.v (by omega) (by omega), o.n, o.e, ?_, ?_, ?_, ?_⟩, o.i, o.w.inK (exG_in o.k o.i), hw2.inK o.i⟩
 ·show x.r.right.nodes.length ≤ 7
  omega
 ·show x.r.right.edges.length ≤ 11
  omega
 ·show (scK x.r.g x.more (scN x.more)).nodes.length ≤ 6
  omega
 ·show (scK x.r.g x.more (scN x.more)).edges.length ≤ 6
  omega
theorem Stg.spok {s : Sp} {g : Gr} (h : Stg s g) : SpOk s := ⟨h.k, by rw [h.i]; exact h.kr.emb⟩
end Go.AM
namespace Go.AM
open Go Go.Proofs
def behD (s : Sp) (g : Gr) (m : Mo) : Mo := cmpl g s.k m
def behO (s : Sp) (g : Gr) (m : Mo) : Ov := pushO s.r (exG g (behD s g m)) s.i (liftM (behD s g m) (thenM s.k m))
def behR (s : Sp) (g : Gr) (m : Mo) : (Gr × Mo) × Bool :=
 if dangL g s.k m = true then ((⟨[], []⟩, ⟨[], []⟩), false) else if poBig s.r (exG g (behD s g m)) then ((⟨[], []⟩, ⟨[], []⟩), false) else (((behO s g m).g, (behO s g m).l), true)
theorem keep_sub {l g : Gr} {k m : Mo} (hk : VP l k) (hm : Emb l g m) : (∀ v ∈ (thenM k m).nodes, v ∈ (cmpl g k m).nodes) ∧ ∀ v ∈ (thenM k m).edges, v ∈ (cmpl g k m).edges := by
 have key : ∀ (F images : List Int) (n w : Nat), images.Nodup → images.length = n → (∀ x ∈ F, 0 ≤ x ∧ x < n) → (∀ x ∈ images, 0 ≤ x ∧ x < w) → ∀ x ∈ byK F images F.length, x ∈ restI w images F := fun F images n w hn hi rF hr x hx => by
  obtain ⟨i, hi', rfl⟩ := mem_getD hx
  rw [byK_all] at hi'
  rw [byK_getD hi']
  have h0 := getD_mem (d := 0) hi'
  have h1 := rF _ h0
  have h2 : (F.getD i 0).toNat < images.length := by omega
  refine restI_mem.2 ⟨hr _ (getD_mem (d := 0) h2), kept_not_gone hn h2 ?_⟩
  rw [show (((F.getD i 0).toNat : Nat) : Int) = F.getD i 0 by omega]; exact h0
 exact ⟨key _ _ _ _ hm.n hm.vm.ln hk.n hm.vm.n, key _ _ _ _ hm.e hm.vm.le hk.e hm.vm.e⟩
theorem beh_emb {s : Sp} {g : Gr} {m : Mo} (hs : SpOk s) (hm : Emb s.l g m) (hd : dangL g s.k m = false) : VP g (behD s g m) ∧ Emb (exG s.l s.k) (exG g (behD s g m)) (liftM (behD s g m) (thenM s.k m)) := by
 have hv := cmpl_vp hm hs.k hd
 have hsub := keep_sub hs.k hm
 exact ⟨hv, lift_emb hv.emb (hs.k.emb.comp hm) hsub.1 hsub.2⟩
theorem ru_str {s : Sp} (h : SpOk s) (va : validG s.l = 0) (vb : validG s.r = 0) : strR s.ru = 0 := by
 have e1 : validG s.ru.lg = 0 := va
 have e2 : validG s.ru.rg = 0 := vb
 have e3 : validP s.ru.lg s.ru.k = 0 := h.k.v
 have e4 : validM (exG s.ru.lg s.ru.k) s.ru.rg s.ru.i = 0 := h.i.v
 have e5 : injM (exG s.ru.lg s.ru.k) s.ru.rg s.ru.i = true := h.i.inj
 unfold strR
 rw [if_neg (by simp [e1]), if_neg (by simp [e2]), if_neg (by simp [e3]), if_neg (by simp [e4]), if_neg (by simp [e5]), if_pos]
 exact ⟨⟨rfl, rfl⟩, ⟨rfl, rfl⟩, rfl⟩
theorem ru_fit {s : Sp} (h : SpOk s) (va : validG s.l = 0) (vb : validG s.r = 0) : s.ru.Fit := by
 obtain ⟨fl, fr, fk, fi⟩ := h.fit
 exact ⟨fl, fr, fk, fi, by rw [bigN_eq]; simp [Sp.ru], by rw [bigN_eq]; simp [Sp.ru], by rw [bigN_eq]; simp [Sp.ru], by rw [bigN_eq]; simp [Sp.ru]⟩
end Go.AM
namespace Go.AM
open Go Go.Proofs
set_option maxRecDepth 100000 in
theorem behind34_c (s : Sp) (g : Gr) (m : Mo) (hs : SpOk s) (hm : Emb s.l g m) (tok : Tks) (nt : Nat) :
  DCall Tryz.prog 26 [s.ru.av, g.av, m.av] tok nt (.tup [(behR s g m).1.1.av, (behR s g m).1.2.av, B (behR s g m).2]) tok nt := by
 intro box nb
 obtain ⟨fl, fr, fk, fi⟩ := hs.fit
 obtain ⟨fm, _, fg⟩ := hm.fit
 have vm := hm.vm
 have hvg := (validG_types vm.vb).1
 have hC := ofP_c s.l g s.k m fl fg fm fk hm hs.k
 refine sB Tryz.func26 Tryz.ntmps26 ?_
 intro hbox htok
 simp only at hbox htok
 apply AL.start
 try (simp)
 repeat (refine sR ?_; simp)
 refine Stop.of_d (hC _ _) ?_
 simp
 by_cases hd : dangL g s.k m = true
 ·have e : cmpR s.l g s.k m = (⟨[], []⟩, 14) := if_pos hd
  have e2 : behR s g m = ((⟨[], []⟩, ⟨[], []⟩), false) := if_pos hd
  rw [e, e2]
  try (simp)
  repeat (refine sR ?_; simp)
  refine sC ?_
  simp
  try (simp)
  repeat (refine sR ?_; simp)
  refine sT ?_
  try simp only [AU]
  refine ⟨by simp, sF hbox htok (fun _ h => h) (Nat.le_refl _) ?_⟩
  simp [packA, ints, AM.edges]
 ·have hd' : dangL g s.k m = false := by simpa using hd
  have e : cmpR s.l g s.k m = (behD s g m, 0) := if_neg hd
  rw [e]
  obtain ⟨vz, hgo⟩ := beh_emb hs hm hd'
  have fz := vz.emb.fit.1
  have x1 := extract07_c g (behD s g m) fg fz vz
  have x2 := extract07_c s.l s.k fl fk hs.k
  have t0 := then63_c s.k m fk (by rw [vm.ln]; exact hs.k.n) (by rw [vm.le]; exact hs.k.e)
  have ft : (thenM s.k m).Fit := (hs.k.emb.comp hm).fit.1
  have vt : VM (exG s.l s.k) g (thenM s.k m) := (hs.k.emb.comp hm).vm
  have k1 := backOK (behD s g m).nodes g.nodes.length fz.n (by omega) (nodup_of_lt vz.sn)
  have k2 := backOK (behD s g m).edges g.edges.length fz.e (by omega) (nodup_of_lt vz.se)
  have a1 := through68_c (thenM s.k m).nodes (backL (behD s g m).nodes g.nodes.length) ft.n (by rw [backL_len]; exact vt.n)
  have a2 := through68_c (thenM s.k m).edges (backL (behD s g m).edges g.edges.length) ft.e (by rw [backL_len]; exact vt.e)
  rw [byK_back vt.n] at a1
  rw [byK_back vt.e] at a2
  have po := pushP_c (exG s.l s.k) s.r (exG g (behD s g m)) s.i (liftM (behD s g m) (thenM s.k m)) hs.i hgo
  have ego : liftM (behD s g m) (thenM s.k m) = ⟨(thenM s.k m).nodes.map (indexI (behD s g m).nodes), (thenM s.k m).edges.map (indexI (behD s g m).edges)⟩ := rfl
  have e3 : behR s g m = (((pushR s.r (exG g (behD s g m)) s.i (liftM (behD s g m) (thenM s.k m))).1.g, (pushR s.r (exG g (behD s g m)) s.i (liftM (behD s g m) (thenM s.k m))).1.l), decide ((pushR s.r (exG g (behD s g m)) s.i (liftM (behD s g m) (thenM s.k m))).2 = 0)) := by
   unfold behR pushR
   rw [if_neg hd]
   split
   ·rfl
   ·rfl
  obtain ⟨P, hP⟩ : ∃ P, pushR s.r (exG g (behD s g m)) s.i (liftM (behD s g m) (thenM s.k m)) = P := ⟨_, rfl⟩
  rw [e3]
  rw [hP] at po ⊢
  rw [ego] at po
  generalize thenM s.k m = T at *
  generalize behD s g m = Z at *
  try (simp)
  repeat (refine sR ?_; simp)
  refine sC ?_
  simp
  try (simp)
  repeat (refine sR ?_; simp)
  refine Stop.of_d (x2 _ _) ?_
  simp
  try (simp)
  repeat (refine sR ?_; simp)
  refine Stop.of_d (x1 _ _) ?_
  simp
  try (simp)
  repeat (refine sR ?_; simp)
  refine Stop.of_d (t0 _ _) ?_
  simp
  try (simp)
  repeat (refine sR ?_; simp)
  refine Stop.of_d (k1 _ _) ?_
  simp
  try (simp)
  repeat (refine sR ?_; simp)
  refine Stop.of_d (a1 _ _) ?_
  simp
  try (simp)
  repeat (refine sR ?_; simp)
  refine Stop.of_d (k2 _ _) ?_
  simp
  try (simp)
  repeat (refine sR ?_; simp)
  refine Stop.of_d (a2 _ _) ?_
  simp
  try (simp)
  repeat (refine sR ?_; simp)
  refine Stop.of_d (po _ _) ?_
  simp
  refine sN ?_
  refine AL.region2 follows_Tryz (Nat.le_refl _) (by kernel_rfl) (Side.of (by simp)) ?_
  simp
  refine sT ?_
  try simp only [AU]
  refine ⟨by simp, sF hbox htok (fun _ h => h) (Nat.le_refl _) ?_⟩
  simp [packA, beqD]
end Go.AM
namespace Go.Proofs.YtfgcpmeadeehhaaGreat.kt
open Go Go.Proofs Go.RowKit
theorem run_append_none {P : Program} {w : World} (base : Nat) (t ty e : TypeId) (i : TypeInfo) (size : Nat) (ht : P.underlying t = some (.slice e)) (hi : P.info? e = some i)
  (v : Value) (n c : Nat) (xs : List Value) (hown : w.ownsRow base e size v n xs) : (Builtin.append_ #[t, t] ty #[v, .slice none 0 c]).run P w = .ok v w := by
 rcases hown.2 with ⟨rfl, rfl⟩ | ⟨g, cap, cur, rfl, _, _, hnc, _⟩
 ·simp [Builtin.append_, run_underlying ht, sizeOf, typeInfo, hi, Builtin.lenOf, Builtin.firstCells]
 ·simp [Builtin.append_, run_underlying ht, sizeOf, typeInfo, hi, Builtin.lenOf, Builtin.firstCells, hnc, storeCells]
theorem append_src {P : Program} {w : World} {ops : Array Oper} {rest : List Oper} {o : Oper} {a : Act} {Q : Exit → Act → World → Prop} (hgd : o.guard = none) (s x : Operand) (t : TypeId)
  (ho : o.op = .call { callee := .builtin .append, args := #[s, x], argTypes := #[t, t] })
  (base : Nat) (e : TypeId) (i : TypeInfo) (z : Value) (size bytes : Nat) (ht : P.underlying t = some (.slice e)) (hi : P.info? e = some i) (hz : i.zero = some z)
  (hsize : i.size = size) (hby : i.bytes = bytes) (hzs : z.cells.size = size) (hsz : 0 < size)
  (v : Value) (n : Nat) (xs : List Value) (hs : a.eval s = v) (hown : w.ownsRow base e size v n xs)
  (A : Option Addr) (m c : Nat) (news : List Value) (hx : a.eval x = .slice A m c) (hl : news.length = m * size) (hA : A = none → m = 0) (hnews : ∀ ad, A = some ad → ∀ j u, news[j]? = some u → w.cell? (ad.add j) = some u) (h1 : ∀ u ∈ news, u.oneCell' = true)
  (h63 : n + m ≤ maxLen) (hbytes : (n + m) * bytes ≤ 140737488355328) (hbase : base ≤ w.heap.size)
  (h : ∀ v' w', w'.ownsRow base e size v' (n + m) (xs ++ news) → w.grownBy w' v.ownBlock → wpList P ops Q rest (a.put o.dst v') w') : wpList P ops Q (o :: rest) a w := by
 cases A with
 | some ad => exact wpList_append_own w hgd s x t ho base e i z size bytes ht hi hz hsize hby hzs hsz v n xs hs hown ad m c news hx hl (hnews ad rfl) h1 h63 hbytes hbase fun v' w' h2 h3 _ => h v' w' h2 h3
 | none =>
  obtain rfl := hA rfl
  have hn : news = [] := List.length_eq_zero_iff.1 (by omega)
  subst hn
  refine wpList_plain hgd fun K hK => ?_
  have hrun := run_append_none (P := P) (w := w) base t o.type e i size ht hi v n c xs hown
  unfold Oper.wp
  simp [execOp, ho, resolve, invoke, builtin, hs, hx, hrun, Result.andThen]
  exact hK _ _ (h v w (by simpa using hown) ⟨rfl, rfl, rfl, Nat.le_refl _, fun _ _ _ => rfl⟩)
theorem infoI : (Tryz.prog.info? 3).map (fun i => (i.zero, i.size, i.bytes)) = some (some (.int .i64 0), 1, 8) := by kernel_rfl
theorem infoB1 : (Tryz.prog.info? 4).map (fun i => (i.zero, i.size, i.bytes)) = some (some (.bool false), 1, 1) := by kernel_rfl
set_option maxHeartbeats 2000000 in
set_option maxRecDepth 100000 in
theorem marked_any (b off n c : Nat) (p : Nat → Bool) (w : World) (hn : n ≤ 1000000) (hb : b < w.heap.size) (hc : ∀ j, j < n → w.cell? ⟨b, off + j, none⟩ = some (.bool (p j))) :
  Calls Tryz.prog 235 #[.slice (some ⟨b, off, none⟩) n c] w fun e w' => ∃ v, e = .returned v ∧ w'.ownsRow w.heap.size 3 1 v (AM.mkL p n).length ((AM.mkL p n).map (Value.int .i64)) ∧ Below w.heap.size w w' := by
 obtain ⟨i0, hi, hz0, hz1, hz2⟩ := info_parts infoI
 go_enter Tryz.func235, Tryz.ntmps235
 go_wp2
 go_loopw [3, 4] (fun v i wr => ∃ k : Nat, k ≤ n ∧ i = .int .i64 k ∧ wr.ownsRow w.heap.size 3 1 v (AM.mkL p k).length ((AM.mkL p k).map (Value.int .i64)) ∧ Below w.heap.size w wr) (fun _ i _ => n - (intOf i).toNat)
 case atStart => exact ⟨0, Nat.zero_le _, rfl, World.ownsRow_nil _ _ _ _, Below.refl _ _⟩
 case round =>
  obtain ⟨k, hk, rfl, hown, hnx⟩ := hrel
  have hml := AM.mkL_len p k
  have hcx : k < n → wr.cell? ⟨b, off + k, none⟩ = some (.bool (p k)) := fun h => (hnx.cell (by exact hb)).trans (hc k (by omega))
  cases hbv : p k
  ·rw [hbv] at hcx
   have hst : AM.mkL p (k + 1) = AM.mkL p k := by rw [AM.mkL_succ, if_neg (by simp only [hbv]; decide)]
   go_wp2
   ·refine ⟨⟨k + 1, by omega, by simp, by rw [hst]; exact hown, hnx⟩, by simp [intOf]; omega⟩
   ·go_ret
    obtain rfl : k = n := by omega
    exact ⟨_, rfl, hown, hnx⟩
  ·rw [hbv] at hcx
   have hst : AM.mkL p (k + 1) = AM.mkL p k ++ [(k : Int)] := by rw [AM.mkL_succ, if_pos hbv]
   go_wp2_with (first
    | (at_builtin; refine wpList_append_own _ rfl _ _ 22 rfl w.heap.size 3 i0 (.int .i64 0) 1 8 Tryz.underlying22 hi hz0 hz1 hz2 rfl (by decide) _ _ _ rfl (hown.alloc _) ⟨wr.heap.size, 0, none⟩ 1 1 [.int .i64 k] rfl rfl ?c1 ?c2 ?c3 ?c4 ?c5 ?_)
    | go_in)
   case c1 =>
    intro j u hj
    match j, hj with
    | 0, hj => simp at hj; subst hj; simp [Addr.add]
   case c2 => intro u hu; simp at hu; subst hu; rfl
   case c3 => unfold maxLen; omega
   case c4 => omega
   case c5 => have := hnx.size; simp; omega
   ·intro v' w1 hown' hgrow
    intro _
    have hnx1 : Below w.heap.size w w1 := (hnx.alloc (by have := hnx.size; omega) _).grown hgrow (by have := hnx.size; simp; omega) (fun q hq => (hown.lt q hq).1)
    have hl2 : (AM.mkL p k).length + 1 = (AM.mkL p (k + 1)).length := by rw [hst]; simp
    have hxs : List.map (Value.int .i64) (AM.mkL p k) ++ [Value.int .i64 k] = (AM.mkL p (k + 1)).map (Value.int .i64) := by rw [hst, List.map_append]; rfl
    rw [hl2, hxs] at hown'
    go_wp2
    exact ⟨⟨k + 1, by omega, by simp, hown', hnx1⟩, by simp [intOf]; omega⟩
   ·go_ret
    obtain rfl : k = n := by omega
    exact ⟨_, rfl, hown, hnx⟩
set_option maxRecDepth 100000 in
theorem marked_zero (A : Option Addr) (c : Nat) (w : World) :
  Calls Tryz.prog 235 #[.slice A 0 c] w fun e w' => e = .returned (.slice none 0 0) ∧ w' = w := by
 go_enter Tryz.func235, Tryz.ntmps235
 go_wp2
 go_loopw [3, 4] (fun v i wr => v = .slice none 0 0 ∧ i = .int .i64 0 ∧ wr = w) (fun _ i _ => 0)
 case atStart => exact ⟨rfl, rfl, rfl⟩
 case round =>
  obtain ⟨rfl, rfl, rfl⟩ := hrel
  go_wp2
  go_ret
  exact ⟨rfl, rfl⟩
end Go.Proofs.YtfgcpmeadeehhaaGreat.kt
namespace Go.Proofs.YtfgcpmeadeehhaaGreat.kt
open Go Go.Proofs Go.RowKit
theorem owns_below {w w' : World} {base : Nat} {e : TypeId} {size : Nat} {v : Value} {n : Nat} {xs : List Value} (h : w.ownsRow base e size v n xs) (hb : Below w.heap.size w w') : w'.ownsRow base e size v n xs := by
 refine ⟨h.1, ?_⟩
 rcases h.2 with h0 | ⟨g, cap, cur, h1, h2, h3, h4⟩
 ·exact .inl h0
 ·exact .inr ⟨g, cap, cur, h1, h2, (hb.block g (Array.getElem?_eq_some_iff.1 h3).1).trans h3, h4⟩
theorem owns_setCell {w : World} {base : Nat} {e : TypeId} {size : Nat} {v : Value} {n : Nat} {xs : List Value} (h : w.ownsRow base e size v n xs) {p : Addr} (hp : p.block < base) (u : Value) : (w.setCell p u).ownsRow base e size v n xs := by
 refine ⟨h.1, ?_⟩
 rcases h.2 with h0 | ⟨g, cap, cur, h1, h2, h3, h4⟩
 ·exact .inl h0
 ·exact .inr ⟨g, cap, cur, h1, h2, (Below.heap_setCell _ _ _ _ (by omega)).trans h3, h4⟩
theorem owns_mono {w : World} {base base' : Nat} {e : TypeId} {size : Nat} {v : Value} {n : Nat} {xs : List Value} (h : w.ownsRow base e size v n xs) (hb : base' ≤ base) : w.ownsRow base' e size v n xs := by
 refine ⟨h.1, ?_⟩
 rcases h.2 with h0 | ⟨g, cap, cur, h1, h2, h3⟩
 ·exact .inl h0
 ·exact .inr ⟨g, cap, cur, h1, by omega, h3⟩
theorem owns_slice {w : World} {base : Nat} {e : TypeId} {size : Nat} {v : Value} {n : Nat} {xs : List Value} (h : w.ownsRow base e size v n xs) : ∃ A c, v = .slice A n c := by
 rcases h.2 with ⟨rfl, h0⟩ | ⟨g, cap, cur, h1, h2, h3⟩
 ·exact ⟨none, 0, by rw [h0]⟩
 ·exact ⟨_, _, h1⟩
theorem alloc_at (w : World) (o : Obj) : (w.alloc o).heap[w.heap.size]? = some o := by unfold World.alloc; exact Array.getElem?_push_size
theorem getD_map_bool {l : List Bool} {j : Nat} (h : j < l.length) : (l.map Value.bool)[j]? = some (.bool (l.getD j false)) := by
 simp [h]
set_option maxHeartbeats 4000000 in
set_option maxRecDepth 100000 in
theorem least_any (GN : Value) (be oe m ce bn on n cn bm om cm : Nat) (N E : List Bool) (fs ts : Nat → Nat) (w : World) (hn0 : 0 < n) (hn : n ≤ 1000000) (hm : m ≤ 1000000) (hN : N.length = n) (hE : E.length = m)
  (he : be < w.heap.size) (hbn : bn < w.heap.size) (hbm : bm < w.heap.size) (hf : ∀ j, j < m → fs j < n) (ht : ∀ j, j < m → ts j < n)
  (hce : ∀ j, j < m → w.cell? ⟨be, oe + j * 3 + 1, none⟩ = some (.int .i64 (fs j)) ∧ w.cell? ⟨be, oe + j * 3 + 2, none⟩ = some (.int .i64 (ts j)))
  (hcn : ∀ j, j < n → w.cell? ⟨bn, on + j, none⟩ = some (.bool (N.getD j false))) (hcm : ∀ j, j < m → w.cell? ⟨bm, om + j, none⟩ = some (.bool (E.getD j false))) :
  Calls Tryz.prog 199 #[.agg #[GN, .slice (some ⟨be, oe, none⟩) m ce], .slice (some ⟨bn, on, none⟩) n cn, .slice (some ⟨bm, om, none⟩) m cm] w fun e w' => ∃ v u, e = .returned (.agg #[v, u]) ∧
   w'.ownsRow w.heap.size 3 1 v (AM.mkL (fun k => (AM.lsK N E fs ts m).getD k false) n).length ((AM.mkL (fun k => (AM.lsK N E fs ts m).getD k false) n).map (Value.int .i64)) ∧
   w'.ownsRow w.heap.size 3 1 u (AM.mkL (fun k => E.getD k false) m).length ((AM.mkL (fun k => E.getD k false) m).map (Value.int .i64)) ∧ Below w.heap.size w w' := by
 obtain ⟨i0, hi, hz0, hz1, hz2⟩ := info_parts infoB1
 go_enter Tryz.func199, Tryz.ntmps199
 go_wp2_with (first
  | (at_builtin; refine append_src rfl _ _ 216 rfl (w.heap.size + 1 + 1) 4 i0 (.bool false) 1 1 Tryz.underlying216 hi hz0 hz1 hz2 rfl (by decide) _ 0 [] rfl ?c0 (some ⟨bn, on, none⟩) n cn (N.map Value.bool) rfl ?c1 ?c2 ?c3 ?c4 ?c5 ?c6 ?c7 ?_)
  | go_in)
 case c0 =>
  refine ⟨rfl, .inr ⟨w.heap.size + 1 + 1, 0, #[], rfl, Nat.le_refl _, ?_, Nat.le_refl _, Nat.zero_le _, rfl, rfl⟩⟩
  have h := alloc_at ((w.alloc (.cells #[GN, .slice (some ⟨be, oe, none⟩) m ce] 25)).alloc (.cells #[.slice none 0 0, .slice none 0 0] 31)) (.cells #[] 4)
  rw [show ((w.alloc (.cells #[GN, .slice (some ⟨be, oe, none⟩) m ce] 25)).alloc (.cells #[.slice none 0 0, .slice none 0 0] 31)).heap.size = w.heap.size + 1 + 1 by simp] at h
  exact h
 case c1 => rw [List.length_map, hN, Nat.mul_one]
 case c2 => intro h; cases h
 case c3 =>
  intro ad had j u hj
  cases had
  by_cases hjn : j < n
  ·rw [getD_map_bool (by omega)] at hj
   cases hj
   have : (⟨bn, on, none⟩ : Addr).add j = ⟨bn, on + j, none⟩ := by
    unfold Addr.add
    split
    ·rename_i e; subst e; rfl
    ·rfl
   rw [this, ← hcn j hjn]
   exact ((((Below.refl w.heap.size w).alloc (Nat.le_refl _) _).alloc (by simp) _).alloc (by simp; omega) _).cell hbn
  ·rw [List.getElem?_eq_none (by simp; omega)] at hj
   cases hj
 case c4 =>
  intro u hu
  obtain ⟨b, _, rfl⟩ := List.mem_map.1 hu
  rfl
 case c5 => unfold maxLen; omega
 case c6 => omega
 case c7 => simp
 intro v' w1 hown hg
 try simp only [Nat.zero_add, List.nil_append] at hown
 obtain ⟨g, cap, rfl, hg1, hg2⟩ := hown.form hn0
 have hA : Below w.heap.size w ((w.alloc (.cells #[GN, .slice (some ⟨be, oe, none⟩) m ce] 25)).alloc (.cells #[.slice none 0 0, .slice none 0 0] 31)) := ((Below.refl w.heap.size w).alloc (Nat.le_refl _) _).alloc (by simp) _
 have hAc : ((w.alloc (.cells #[GN, .slice (some ⟨be, oe, none⟩) m ce] 25)).alloc (.cells #[.slice none 0 0, .slice none 0 0] 31)).cell? ⟨w.heap.size, 1, none⟩ = some (.slice (some ⟨be, oe, none⟩) m ce) := by simp
 have hAs : ((w.alloc (.cells #[GN, .slice (some ⟨be, oe, none⟩) m ce] 25)).alloc (.cells #[.slice none 0 0, .slice none 0 0] 31)).heap.size = w.heap.size + 1 + 1 := by simp
 have hAx0 : ((w.alloc (.cells #[GN, .slice (some ⟨be, oe, none⟩) m ce] 25)).alloc (.cells #[.slice none 0 0, .slice none 0 0] 31)).cell? ⟨w.heap.size + 1, 0, none⟩ = some (.slice none 0 0) := by simp
 have hAx1 : ((w.alloc (.cells #[GN, .slice (some ⟨be, oe, none⟩) m ce] 25)).alloc (.cells #[.slice none 0 0, .slice none 0 0] 31)).cell? ⟨w.heap.size + 1, 1, none⟩ = some (.slice none 0 0) := by simp
 have hAz0 : ((w.alloc (.cells #[GN, .slice (some ⟨be, oe, none⟩) m ce] 25)).alloc (.cells #[.slice none 0 0, .slice none 0 0] 31)).frozen? ⟨w.heap.size + 1, 0, none⟩ = false := by simp
 have hAz1 : ((w.alloc (.cells #[GN, .slice (some ⟨be, oe, none⟩) m ce] 25)).alloc (.cells #[.slice none 0 0, .slice none 0 0] 31)).frozen? ⟨w.heap.size + 1, 1, none⟩ = false := by simp
 generalize hwA : ((w.alloc (.cells #[GN, .slice (some ⟨be, oe, none⟩) m ce] 25)).alloc (.cells #[.slice none 0 0, .slice none 0 0] 31)) = wA at *
 have hb1 : Below (w.heap.size + 1 + 1) wA w1 := ((Below.refl _ _).alloc (by omega) _).grown hg (by simp; omega) (by intro q hq; simp [Value.ownBlock] at hq; omega)
 clear hg hwA hcn
 go_wp2
 go_loopw [8] (fun i wr => ∃ k : Nat, k ≤ m ∧ i = .int .i64 k ∧ wr.ownsRow (w.heap.size + 1 + 1) 4 1 (.slice (some ⟨g, 0, none⟩) n cap) n ((AM.lsK N E fs ts k).map Value.bool) ∧ Below (w.heap.size + 1 + 1) wA wr) (fun i _ => m - (intOf i).toNat)
 case atStart => exact ⟨0, Nat.zero_le _, rfl, hown, hb1⟩
 case round =>
  clear hown hb1
  obtain ⟨k, hk, rfl, hown, hnx⟩ := hrel
  have hll := AM.lsK_len N E fs ts k
  have hcg : wr.cell? ⟨w.heap.size, 1, none⟩ = some (.slice (some ⟨be, oe, none⟩) m ce) := (hnx.cell (by simp; omega)).trans hAc
  have hcx : k < m → wr.cell? ⟨bm, om + k, none⟩ = some (.bool (E.getD k false)) := fun h => ((hnx.cell (by simp; omega)).trans (hA.cell hbm)).trans (hcm k h)
  have hcf : k < m → wr.cell? ⟨be, oe + k * 3 + 1, none⟩ = some (.int .i64 (fs k)) := fun h => ((hnx.cell (by simp; omega)).trans (hA.cell he)).trans (hce k h).1
  have hct : k < m → wr.cell? ⟨be, oe + k * 3 + 2, none⟩ = some (.int .i64 (ts k)) := fun h => ((hnx.cell (by simp; omega)).trans (hA.cell he)).trans (hce k h).2
  cases hbv : E.getD k false
  ·rw [hbv] at hcx
   go_wp2_with fail
   ·exact ⟨⟨k + 1, by omega, by simp, by rw [AM.lsK_no hbv]; exact hown, hnx⟩, by simp [intOf]; omega⟩
   ·have hkm : ¬ k < m := by assumption
    obtain rfl : k = m := by omega
    have hA1 : Below w.heap.size w wr := hA.trans (hnx.mono (by omega))
    have hcw : ∀ j, j < k → wr.cell? ⟨bm, om + j, none⟩ = some (.bool (E.getD j false)) := fun j hj => (hA1.cell hbm).trans (hcm j hj)
    have hcw2 : ∀ j, j < n → wr.cell? ⟨g, 0 + j, none⟩ = some (.bool ((AM.lsK N E fs ts k).getD j false)) := fun j hj => by
     rw [Nat.zero_add, hown.cellAt _ (by omega)]; exact getD_map_bool (by omega)
    have hgs := (hown.lt g rfl).2
    have hsz := hA1.size
    have hc1 := marked_any g 0 n cap (fun j => (AM.lsK N E fs ts k).getD j false) wr hn hgs hcw2
    refine hc1.mono ?_
    rintro e w2 ⟨v2, rfl, ho2, hb2⟩
    have hcw3 : ∀ j, j < k → w2.cell? ⟨bm, om + j, none⟩ = some (.bool (E.getD j false)) := fun j hj => (hb2.cell (by simp; omega)).trans (hcw j hj)
    have hc2 := marked_any bm om k cm (fun j => E.getD j false) w2 hm (by have := hb2.size; omega) hcw3
    clear hc1 hcw hcw2 hcw3 hcx hcf hct hcg
    go_wp2_with fail
    refine hc2.mono ?_
    rintro e w3 ⟨u3, rfl, ho3, hb3⟩
    clear hc2
    have hsr := hnx.size
    have hs2 := hb2.size
    have hs3 := hb3.size
    have hnx3 : Below (w.heap.size + 1 + 1) wA w3 := (hnx.trans (hb2.mono (by omega))).trans (hb3.mono (by omega))
    have hx0 := (hnx3.cell (p := ⟨w.heap.size + 1, 0, none⟩) (by simp)).trans hAx0
    have hx1 := (hnx3.cell (p := ⟨w.heap.size + 1, 1, none⟩) (by simp)).trans hAx1
    have hz0' := (hnx3.frozen (p := ⟨w.heap.size + 1, 0, none⟩) (by simp)).trans hAz0
    have hz1' := (hnx3.frozen (p := ⟨w.heap.size + 1, 1, none⟩) (by simp)).trans hAz1
    have ho2' := owns_below (owns_mono (base' := w.heap.size + 1 + 1) ho2 (by omega)) hb3
    have ho3' := owns_mono (base' := w.heap.size + 1 + 1) ho3 (by omega)
    have hB3 : Below w.heap.size w w3 := hA.trans (hnx3.mono (by omega))
    clear hown hnx ho2 ho3 hb2 hb3 hnx3 hA1 hsz
    obtain ⟨A2, c2, rfl⟩ := owns_slice ho2'
    obtain ⟨A3, c3, rfl⟩ := owns_slice ho3'
    go_wp2
    refine bodyPost_ret (by simp [results, Tryz.results199, go_sem, hx0, hx1, hz0', hz1']; try rfl) rfl ?_
    exact ⟨_, _, rfl, owns_mono (owns_setCell (owns_setCell ho2' (by simp) _) (by simp) _) (by omega), owns_mono (owns_setCell (owns_setCell ho3' (by simp) _) (by simp) _) (by omega), (hB3.setCell (by simp) _).setCell (by simp) _⟩
  ·rw [hbv] at hcx
   have hne1 : w.heap.size ≠ g := by omega
   have hne2 : be ≠ g := by omega
   have hne3 : g ≠ w.heap.size := by omega
   have hne4 : g ≠ be := by omega
   have hf1 := hown.frozenAt (fs k)
   have hf2 := hown.frozenAt (ts k)
   go_wp2_with fail
   ·have hkm : k < m := by assumption
    have hcf' := hcf hkm
    have hct' := hct hkm
    have hfk := hf k hkm
    have htk := ht k hkm
    have hfk' : ((fs k : Nat) : Int) < n := by omega
    have htk' : ((ts k : Nat) : Int) < n := by omega
    have hfk0 : (0 : Int) ≤ ((fs k : Nat) : Int) := by omega
    have htk0 : (0 : Int) ≤ ((ts k : Nat) : Int) := by omega
    have hc1 : wr.cell? ⟨g, fs k, none⟩ = some (.bool ((AM.lsK N E fs ts k).getD (fs k) false)) := by
     rw [hown.cellAt _ (by omega)]; exact getD_map_bool (by omega)
    have hc2 : wr.cell? ⟨g, ts k, none⟩ = some (.bool ((AM.lsK N E fs ts k).getD (ts k) false)) := by
     rw [hown.cellAt _ (by omega)]; exact getD_map_bool (by omega)
    have hst1 := (hown.stored (fs k) (.bool true)).1
    have hst2 := (hown.stored (ts k) (.bool true)).1
    have hd1 := hst1.cellAt (ts k) (by omega)
    have hd2 := hst2.cellAt (fs k) (by omega)
    have hd3 := hst1.frozenAt (ts k)
    have hd4 := hst2.frozenAt (fs k)
    clear hcf hct hcx
    go_region_held3 (fun w' => w'.cell? ⟨w.heap.size, 1, none⟩ = some (.slice (some ⟨be, oe, none⟩) m ce) ∧ w'.cell? ⟨be, oe + k * 3 + 1, none⟩ = some (.int .i64 (fs k)) ∧ w'.cell? ⟨be, oe + k * 3 + 2, none⟩ = some (.int .i64 (ts k))) (go_keep) (fail)
    have hst3 := (hst1.stored (ts k) (.bool true)).1.drew
    have hnx' : Below (w.heap.size + 1 + 1) wA ((wr.setCell ⟨g, fs k, none⟩ (.bool true)).setCell ⟨g, ts k, none⟩ (.bool true)).drew := ((hnx.setCell hg1 _).setCell hg1 _).drew
    rw [← List.map_set, ← List.map_set, ← AM.lsK_yes hbv] at hst3
    clear hst1 hst2 hd1 hd2 hd3 hd4 hc1 hc2 hf1 hf2 hown hnx hcf' hct'
    generalize ((wr.setCell ⟨g, fs k, none⟩ (.bool true)).setCell ⟨g, ts k, none⟩ (.bool true)).drew = wn at *
    go_wp2
    exact ⟨⟨k + 1, by omega, by simp, hst3, hnx'⟩, by simp [intOf]; omega⟩
   ·have hkm : ¬ k < m := by assumption
    exfalso
    rw [List.getD_eq_getElem?_getD, List.getElem?_eq_none (by omega)] at hbv
    cases hbv
set_option maxHeartbeats 4000000 in
set_option maxRecDepth 100000 in
theorem least_zero (GN : Value) (AE AN AB : Option Addr) (ce n cn cm : Nat) (N : List Bool) (w : World) (hn : n ≤ 1000000) (hN : N.length = n) (hA : AN = none → n = 0)
  (hcn : ∀ a, AN = some a → ∀ j, j < n → w.cell? (a.add j) = some (.bool (N.getD j false))) :
  Calls Tryz.prog 199 #[.agg #[GN, .slice AE 0 ce], .slice AN n cn, .slice AB 0 cm] w fun e w' => ∃ v u, e = .returned (.agg #[v, u]) ∧
   w'.ownsRow w.heap.size 3 1 v (AM.mkL (fun k => N.getD k false) n).length ((AM.mkL (fun k => N.getD k false) n).map (Value.int .i64)) ∧
   w'.ownsRow w.heap.size 3 1 u (AM.mkL (fun k => false) 0).length ((AM.mkL (fun k => false) 0).map (Value.int .i64)) ∧ Below w.heap.size w w' := by
 obtain ⟨i0, hi, hz0, hz1, hz2⟩ := info_parts infoB1
 go_enter Tryz.func199, Tryz.ntmps199
 go_wp2_with (first
  | (at_builtin; refine append_src rfl _ _ 216 rfl (w.heap.size + 1 + 1) 4 i0 (.bool false) 1 1 Tryz.underlying216 hi hz0 hz1 hz2 rfl (by decide) _ 0 [] rfl ?c0 AN n cn (N.map Value.bool) rfl ?c1 ?c2 ?c3 ?c4 ?c5 ?c6 ?c7 ?_)
  | go_in)
 case c0 =>
  refine ⟨rfl, .inr ⟨w.heap.size + 1 + 1, 0, #[], rfl, Nat.le_refl _, ?_, Nat.le_refl _, Nat.zero_le _, rfl, rfl⟩⟩
  have h := alloc_at ((w.alloc (.cells #[GN, .slice AE 0 ce] 25)).alloc (.cells #[.slice none 0 0, .slice none 0 0] 31)) (.cells #[] 4)
  rw [show ((w.alloc (.cells #[GN, .slice AE 0 ce] 25)).alloc (.cells #[.slice none 0 0, .slice none 0 0] 31)).heap.size = w.heap.size + 1 + 1 by simp] at h
  exact h
 case c1 => rw [List.length_map, hN, Nat.mul_one]
 case c2 => exact hA
 case c3 =>
  intro ad had j u hj
  by_cases hjn : j < n
  ·rw [getD_map_bool (by omega)] at hj
   cases hj
   have hc := hcn ad had j hjn
   rw [← hc]
   exact ((((Below.refl w.heap.size w).alloc (Nat.le_refl _) _).alloc (by simp) _).alloc (by simp; omega) _).cell (World.block_lt_of_cell? w _ hc)
  ·rw [List.getElem?_eq_none (by simp; omega)] at hj
   cases hj
 case c4 =>
  intro u hu
  obtain ⟨b, _, rfl⟩ := List.mem_map.1 hu
  rfl
 case c5 => unfold maxLen; omega
 case c6 => omega
 case c7 => simp
 intro v' w1 hown hg
 try simp only [Nat.zero_add, List.nil_append] at hown
 obtain ⟨A1, c1, rfl⟩ := owns_slice hown
 have hA : Below w.heap.size w ((w.alloc (.cells #[GN, .slice AE 0 ce] 25)).alloc (.cells #[.slice none 0 0, .slice none 0 0] 31)) := ((Below.refl w.heap.size w).alloc (Nat.le_refl _) _).alloc (by simp) _
 have hAs : ((w.alloc (.cells #[GN, .slice AE 0 ce] 25)).alloc (.cells #[.slice none 0 0, .slice none 0 0] 31)).heap.size = w.heap.size + 1 + 1 := by simp
 have hAx0 : ((w.alloc (.cells #[GN, .slice AE 0 ce] 25)).alloc (.cells #[.slice none 0 0, .slice none 0 0] 31)).cell? ⟨w.heap.size + 1, 0, none⟩ = some (.slice none 0 0) := by simp
 have hAx1 : ((w.alloc (.cells #[GN, .slice AE 0 ce] 25)).alloc (.cells #[.slice none 0 0, .slice none 0 0] 31)).cell? ⟨w.heap.size + 1, 1, none⟩ = some (.slice none 0 0) := by simp
 have hAz0 : ((w.alloc (.cells #[GN, .slice AE 0 ce] 25)).alloc (.cells #[.slice none 0 0, .slice none 0 0] 31)).frozen? ⟨w.heap.size + 1, 0, none⟩ = false := by simp
 have hAz1 : ((w.alloc (.cells #[GN, .slice AE 0 ce] 25)).alloc (.cells #[.slice none 0 0, .slice none 0 0] 31)).frozen? ⟨w.heap.size + 1, 1, none⟩ = false := by simp
 generalize hwA : ((w.alloc (.cells #[GN, .slice AE 0 ce] 25)).alloc (.cells #[.slice none 0 0, .slice none 0 0] 31)) = wA at *
 have hb1 : Below (w.heap.size + 1 + 1) wA w1 := ((Below.refl _ _).alloc (by omega) _).grown hg (by simp; omega) (by intro q hq; simp [Value.ownBlock] at hq; omega)
 clear hg hwA hcn
 have hc1 : Calls Tryz.prog 235 #[.slice A1 n c1] w1 fun e w' => ∃ v, e = .returned v ∧ w'.ownsRow w1.heap.size 3 1 v (AM.mkL (fun k => N.getD k false) n).length ((AM.mkL (fun k => N.getD k false) n).map (Value.int .i64)) ∧ Below w1.heap.size w1 w' := by
  by_cases h0 : n = 0
  ·subst h0
   refine (marked_zero A1 c1 w1).mono ?_
   rintro e w' ⟨rfl, rfl⟩
   exact ⟨_, rfl, ⟨rfl, .inl ⟨rfl, rfl⟩⟩, Below.refl _ _⟩
  ·obtain ⟨g, cap, e, hg1, hg2⟩ := hown.form (by omega)
   cases e
   exact marked_any g 0 n _ (fun j => N.getD j false) w1 hn hg2 fun j hj => by
    rw [Nat.zero_add, hown.cellAt _ (by omega)]; exact getD_map_bool (by omega)
 go_wp2
 go_loopw [8] (fun i wr => i = .int .i64 0 ∧ wr = w1) (fun i _ => 0)
 case atStart => exact ⟨rfl, rfl⟩
 case round =>
  obtain ⟨rfl, rfl⟩ := hrel
  go_wp2_with fail
  refine hc1.mono ?_
  rintro e w2 ⟨v2, rfl, ho2, hb2⟩
  clear hc1
  have hc2 := marked_zero AB cm w2
  go_wp2_with fail
  refine hc2.mono ?_
  rintro e w3 ⟨rfl, rfl⟩
  clear hc2
  have hsr := hb1.size
  have hs2 := hb2.size
  have hnx3 : Below (w.heap.size + 1 + 1) wA w3 := hb1.trans (hb2.mono (by omega))
  have hx0 := (hnx3.cell (p := ⟨w.heap.size + 1, 0, none⟩) (by simp)).trans hAx0
  have hx1 := (hnx3.cell (p := ⟨w.heap.size + 1, 1, none⟩) (by simp)).trans hAx1
  have hz0' := (hnx3.frozen (p := ⟨w.heap.size + 1, 0, none⟩) (by simp)).trans hAz0
  have hz1' := (hnx3.frozen (p := ⟨w.heap.size + 1, 1, none⟩) (by simp)).trans hAz1
  have ho2' := owns_mono (base' := w.heap.size + 1 + 1) ho2 (by omega)
  have hB3 : Below w.heap.size w w3 := hA.trans (hnx3.mono (by omega))
  clear hown hb1 ho2 hb2 hnx3
  obtain ⟨A2, c2, rfl⟩ := owns_slice ho2'
  go_wp2
  refine bodyPost_ret (by simp [results, Tryz.results199, go_sem, hx0, hx1, hz0', hz1']; try rfl) rfl ?_
  exact ⟨_, _, rfl, owns_mono (owns_setCell (owns_setCell ho2' (by simp) _) (by simp) _) (by omega), ⟨rfl, .inl ⟨rfl, rfl⟩⟩, (hB3.setCell (by simp) _).setCell (by simp) _⟩
end Go.Proofs.YtfgcpmeadeehhaaGreat.kt
namespace Go.AM
open Go Go.Proofs Go.RowKit
def rB (l : List Bool) : List (List D) := l.map fun b => [D.raw (.bool b)]
abbrev bls (l : List Bool) : D := .sl 1 (rB l)
theorem rvd_bls {c : Addr → Option Value} {ps : Addr → Prop} {l : List Bool} {v : Value} (h : RVd c ps (bls l) v) :
  ∃ A cap, v = .slice A l.length cap ∧ l.length ≤ cap ∧ cap ≤ maxLen ∧ (l ≠ [] → ∃ a, A = some a) ∧ ∀ a, A = some a → ∀ i, i < l.length → c (a.add i) = some (.bool (l.getD i false)) := by
 unfold bls rB at h
 generalize hes : (l.map fun n => [D.raw (.bool n)]) = es at h
 cases h with
 | @sl _ _ A cap u hcap hmax hsz hA hc hr =>
  have hl : es.length = l.length := by rw [← hes]; simp
  refine ⟨A, cap, by rw [hl], by omega, hmax, fun hne => hA (by intro e; rw [e] at hl; exact hne (List.length_eq_zero_iff.1 hl.symm)), fun a ha i hi => ?_⟩
  have g := (hc a ha i 0 (by omega) (by decide)).2
  have r := hr i 0 (by omega) (by rw [hsz _ (List.getElem_mem _)]; decide)
  have e1 : es[i][0]'(by rw [hsz _ (List.getElem_mem _)]; decide) = D.raw (.bool l[i]) := by
   subst hes
   simp
  rw [e1] at r
  have e2 : u i 0 = .bool l[i] := by
   generalize hu : u i 0 = x at r
   cases r
   rfl
  rw [Nat.mul_one, Nat.add_zero, e2] at g
  rw [g]
  simp [hi]
theorem rvd_edges {c : Addr → Option Value} {ps : Addr → Prop} {l : List E} {v : Value} (h : RVd c ps (AM.edges l) v) :
  ∃ A cap, v = .slice A l.length cap ∧ l.length ≤ cap ∧ cap ≤ maxLen ∧ (l ≠ [] → ∃ a, A = some a) ∧ ∀ a, A = some a → ∀ i, i < l.length → c (a.add (i * 3 + 0)) = some (.int .i64 (l.getD i default).ty) ∧ c (a.add (i * 3 + 1)) = some (.int .i64 (l.getD i default).fr) ∧ c (a.add (i * 3 + 2)) = some (.int .i64 (l.getD i default).to) := by
 unfold AM.edges at h
 generalize hes : l.map E.cells = es at h
 cases h with
 | @sl _ _ A cap u hcap hmax hsz hA hc hr =>
  have hl : es.length = l.length := by rw [← hes]; simp
  refine ⟨A, cap, by rw [hl], by omega, hmax, fun hne => hA (by intro e; rw [e] at hl; exact hne (List.length_eq_zero_iff.1 hl.symm)), fun a ha i hi => ?_⟩
  have hge : l.getD i default = l[i] := by simp [hi]
  have key : ∀ (j : Nat) (hj : j < 3) (n : Int), (l[i].cells)[j]'(by simpa [E.cells] using hj) = D.raw (.int .i64 n) → c (a.add (i * 3 + j)) = some (.int .i64 n) := fun j hj n hn => by
   have g := (hc a ha i j (by omega) hj).2
   have r := hr i j (by omega) (by rw [hsz _ (List.getElem_mem _)]; exact hj)
   have e1 : es[i][j]'(by rw [hsz _ (List.getElem_mem _)]; exact hj) = D.raw (.int .i64 n) := by
    subst hes
    rw [← hn]
    simp
   rw [e1] at r
   generalize hu : u i j = x at r g
   cases r
   exact g
  rw [hge]
  exact ⟨key 0 (by decide) _ rfl, key 1 (by decide) _ rfl, key 2 (by decide) _ rfl⟩
theorem spot_none {w : World} {a : Addr} {u : Value} (h : w.cell? (a.add 0) = some u) : a.spot = none := by
 cases hsp : a.spot with
 | none => rfl
 | some q =>
  exfalso
  simp only [World.cell?, Addr.add, hsp, Option.isSome_some, ↓reduceIte] at h
  split at h <;> simp at h
end Go.AM
namespace Go.AM
open Go Go.Proofs Go.RowKit
theorem addr_add (b off j : Nat) : (⟨b, off, none⟩ : Addr).add j = ⟨b, off + j, none⟩ := by
 unfold Addr.add
 split
 ·rename_i e; subst e; rfl
 ·rfl
theorem agg2 {G : Gh} {w : World} {x y : AV} {v : Value} (h : RV G w (.agg [x, y]) v) : ∃ v1 v2, v = .agg #[v1, v2] ∧ RV G w x v1 ∧ RV G w y v2 := by
 cases h with
 | @agg _ vs hl h2 h3 =>
  match vs, hl with
  | [v1, v2], _ => exact ⟨v1, v2, rfl, h2 0 (by simp) (by simp), h2 1 (by simp) (by simp)⟩
theorem agg2_of {G : Gh} {w : World} {x y : AV} {v1 v2 : Value} (h1 : RV G w x v1) (h2 : RV G w y v2) (o1 : v1.oneCell' = true) (o2 : v2.oneCell' = true) : RV G w (.agg [x, y]) (.agg #[v1, v2]) := by
 have := RV.agg (G := G) (w := w) (cs := [x, y]) (vs := [v1, v2]) rfl (fun i g1 g2 => by
  match i, g1 with
  | 0, _ => exact h1
  | 1, _ => exact h2) (by simp [o1, o2])
 exact this
theorem rvd_d {G : Gh} {w : World} {x : D} {v : Value} (h : RV G w (.d x) v) : RVd w.cell? G.ps x v := by cases h with | d h => exact h
theorem owns_one {w : World} {base : Nat} {e : TypeId} {size : Nat} {v : Value} {n : Nat} {xs : List Value} (h : w.ownsRow base e size v n xs) : v.oneCell' = true := by
 obtain ⟨A, c, rfl⟩ := YtfgcpmeadeehhaaGreat.kt.owns_slice h
 rfl
theorem lsK_get (g : Gr) (hv : validG g = 0) (N E : List Bool) (hN : N.length = g.nodes.length) : ∀ i, i ≤ g.edges.length → ∀ k, k < g.nodes.length →
  (lsK N E (fun j => (g.edges.getD j default).fr.toNat) (fun j => (g.edges.getD j default).to.toNat) i).getD k false = lsN g (fun k => N.getD k false) (fun k => E.getD k false) i k
 | 0, _, k, hk => by simp [lsK, lsN]
 | i + 1, hi, k, hk => by
  have ih := lsK_get g hv N E hN i (by omega) k hk
  obtain ⟨b1, b2, b3, b4⟩ := validG_edges hv (g.edges.getD i default) (getD_mem (by omega))
  rw [lsN_succ, ← ih]
  have hl := lsK_len N E (fun j => (g.edges.getD j default).fr.toNat) (fun j => (g.edges.getD j default).to.toNat) i
  cases he : E.getD i false
  ·rw [lsK_no he]; simp
  ·rw [lsK_yes he]
   generalize lsK N E _ _ i = L at *
   have set_get : ∀ (M : List Bool) (a : Nat), a < M.length → (M.set a true).getD k false = (M.getD k false || decide (a = k)) := fun M a ha => by
    by_cases e : a = k
    ·subst e; simp [ha]
    ·simp [e]
   rw [set_get _ _ (by rw [List.length_set]; omega), set_get _ _ (by omega)]
   have e1 : ((g.edges.getD i default).fr.toNat = k) = ((g.edges.getD i default).fr = (k : Int)) := by rw [eq_iff_iff]; omega
   have e2 : ((g.edges.getD i default).to.toNat = k) = ((g.edges.getD i default).to = (k : Int)) := by rw [eq_iff_iff]; omega
   simp only [e1, e2, Bool.true_and, Bool.or_assoc]
theorem least_c (g : Gr) (hg : g.Fit) (hv : validG g = 0) (N E : List Bool) (hN : N.length = g.nodes.length) (hE : E.length = g.edges.length) (tok : Tks) (nt : Nat) :
  DCall Tryz.prog 199 [g.av, .d (bls N), .d (bls E)] tok nt (lstP g (fun k => N.getD k false) (fun k => E.getD k false)).av tok nt := by
 intro box nb
 have hgn := hg.n
 have hge := hg.e
 refine ⟨Enters.mk Tryz.func199 rfl (by kernel_rfl), fun G w vals hm hr => ?_⟩
 obtain ⟨hlen, hrv⟩ := hr
 match vals, hlen with
 | [v, x, y], _ =>
  have h0 := hrv 0 (by simp) (by simp)
  have h1 := hrv 1 (by simp) (by simp)
  have h2 := hrv 2 (by simp) (by simp)
  simp only [List.getElem_cons_zero, List.getElem_cons_succ] at h0 h1 h2
  obtain ⟨v1, v2, rfl, g1, g2⟩ := agg2 h0
  obtain ⟨AE, ce, rfl, hce, hmE, hAE, hcE⟩ := rvd_edges (rvd_d g2)
  obtain ⟨AN, cn, rfl, hcn, hmN, hAN, hcN⟩ := rvd_bls (rvd_d h1)
  obtain ⟨AB, cb, rfl, hcb, hmB, hAB, hcB⟩ := rvd_bls (rvd_d h2)
  have hANz : AN = none → N.length = 0 := fun e => by
   by_cases hN0 : N = []
   ·rw [hN0]; rfl
   ·obtain ⟨a, ha⟩ := hAN hN0
    rw [e] at ha; cases ha
  by_cases h0 : g.edges.length = 0
  ·have hE0 : E.length = 0 := by omega
   rw [h0, hE0]
   refine (YtfgcpmeadeehhaaGreat.kt.least_zero v1 AE AN AB ce N.length cn cb N w (by omega) rfl hANz (fun a ha j hj => hcN a ha j hj)).mono ?_
   rintro e w' ⟨u1, u2, rfl, o1, o2, hb⟩
   have e1 : mkL (fun k => N.getD k false) N.length = (lstP g (fun k => N.getD k false) (fun k => E.getD k false)).nodes := by
    unfold lstP
    simp only
    rw [h0, hN]
    exact mkL_ext fun k hk => by simp [lsN]
   have e2 : mkL (fun k => false) 0 = (lstP g (fun k => N.getD k false) (fun k => E.getD k false)).edges := by
    unfold lstP
    simp only
    rw [h0]
    rfl
   rw [e1] at o1
   rw [e2] at o2
   exact ⟨_, _, _, G, rfl, ⟨rfl, rfl⟩, rfl, relM_below hm hb, agg2_of (.d (rvd_owns hm o1)) (.d (rvd_owns hm o2)) (owns_one o1) (owns_one o2), le_below hm hb, fun k hk => ⟨hk, rfl⟩⟩
  ·have hed := fun j (hj : j < g.edges.length) => validG_edges hv (g.edges.getD j default) (getD_mem hj)
   have hn0 : 0 < g.nodes.length := by have := hed 0 (by omega); omega
   obtain ⟨a1, rfl⟩ := hAE (by intro e; rw [e] at h0; exact h0 rfl)
   obtain ⟨a2, rfl⟩ := hAN (by intro e; rw [e] at hN; simp at hN; omega)
   obtain ⟨a3, rfl⟩ := hAB (by intro e; rw [e] at hE; simp at hE; omega)
   have cE := hcE a1 rfl
   have cN := hcN a2 rfl
   have cB := hcB a3 rfl
   have s1 := spot_none (a := a1.add 0) (by
    have := (cE 0 (by omega)).1
    simp only [Nat.zero_mul, Nat.zero_add] at this
    have e : (a1.add 0).add 0 = a1.add 0 := by unfold Addr.add; simp
    rw [e]; exact this)
   have s1' : a1.spot = none := by unfold Addr.add at s1; simpa using s1
   have s2 := spot_none (cN 0 (by omega))
   have s3 := spot_none (cB 0 (by omega))
   obtain ⟨be, oe, sp⟩ := a1
   obtain ⟨bn, on, sp2⟩ := a2
   obtain ⟨bm, om, sp3⟩ := a3
   simp only at s1' s2 s3
   subst s1' s2 s3
   simp only [addr_add] at cE cN cB
   have q1 := World.block_lt_of_cell? w _ (cE 0 (by omega)).2.1
   have q2 := World.block_lt_of_cell? w _ (cN 0 (by omega))
   have q3 := World.block_lt_of_cell? w _ (cB 0 (by omega))
   rw [hN]
   rw [hN] at cN
   rw [hE]
   rw [hE] at cB
   refine (YtfgcpmeadeehhaaGreat.kt.least_any v1 be oe g.edges.length ce bn on g.nodes.length cn bm om cb N E (fun j => (g.edges.getD j default).fr.toNat) (fun j => (g.edges.getD j default).to.toNat) w hn0 (by omega) (by omega) hN hE q1 q2 q3
    (fun j hj => by have := hed j hj; omega) (fun j hj => by have := hed j hj; omega) (fun j hj => ?_) cN cB).mono ?_
   ·have h3 := hed j hj
    obtain ⟨_, c1, c2⟩ := cE j hj
    refine ⟨?_, ?_⟩
    ·rw [show oe + j * 3 + 1 = oe + (j * 3 + 1) by omega, c1, show (((g.edges.getD j default).fr.toNat : Nat) : Int) = (g.edges.getD j default).fr by omega]
    ·rw [show oe + j * 3 + 2 = oe + (j * 3 + 2) by omega, c2, show (((g.edges.getD j default).to.toNat : Nat) : Int) = (g.edges.getD j default).to by omega]
   ·rintro e w' ⟨u1, u2, rfl, o1, o2, hb⟩
    have e1 : mkL (fun k => (lsK N E (fun j => (g.edges.getD j default).fr.toNat) (fun j => (g.edges.getD j default).to.toNat) g.edges.length).getD k false) g.nodes.length = (lstP g (fun k => N.getD k false) (fun k => E.getD k false)).nodes := by
     unfold lstP
     simp only
     exact mkL_ext fun k hk => lsK_get g hv N E hN _ (Nat.le_refl _) k hk
    have e2 : mkL (fun k => E.getD k false) g.edges.length = (lstP g (fun k => N.getD k false) (fun k => E.getD k false)).edges := rfl
    rw [e1] at o1
    rw [e2] at o2
    exact ⟨_, _, _, G, rfl, ⟨rfl, rfl⟩, rfl, relM_below hm hb, agg2_of (.d (rvd_owns hm o1)) (.d (rvd_owns hm o2)) (owns_one o1) (owns_one o2), le_below hm hb, fun k hk => ⟨hk, rfl⟩⟩
end Go.AM
namespace Go.AM
open Go
variable {P : Program} {wr : Bool}
theorem effW_maker' {base : Nat} {o : Oper} {ρ : Operand → AV} {b b' : Bxs} {v : AV} (hm : maker o.op = true) (h : EffW P base o ρ b v b') :
  ∃ s rows, o.dst = some s ∧ b' = upd b (base + s) (some rows) := by
 unfold EffW at h
 cases hop : o.op <;> rw [hop] at hm h <;> first | cases hm | skip
 ·simp only at h
  split at h
  ·rename_i s cs h1 h2
   obtain ⟨g1, g2, g3⟩ := h
   exact ⟨s, [cs], h1, g3⟩
  ·exact h.elim
 ·simp only at h
  split at h
  ·rename_i sz by' zs s k1 n k2 n' h1 h2 h3 h4
   obtain ⟨g1, g2, g3, g4, g5, g6⟩ := h
   exact ⟨s, _, h2, g6⟩
  ·exact h.elim
def isLoad : Op → Bool
 | .load .. => true
 | _ => false
theorem isLoad_spec {o : Oper} (h : isLoad o.op = true) : cls o.op = .r ∧ ∃ p, ptrOp o.op = some p := by
 cases hop : o.op <;> rw [hop] at h <;> first | cases h | skip
 exact ⟨rfl, _, rfl⟩
theorem maker_cls {o : Oper} (h : maker o.op = true) : cls o.op = .w := by
 cases hop : o.op <;> rw [hop] at h <;> first | (exact absurd h Bool.false_ne_true) | rfl
def lm (x y : Oper) : Bool := isLoad x.op && maker y.op || maker x.op && isLoad y.op
def regOk5 (ops : Array Oper) : Bool :=
 let an := ancs ops.toList []
 dstUniq ops && (List.range ops.size).all fun i => (match ops[i]? with | some o => (direct o).all fun j => decide (j < i) | none => true) &&
  (List.range i).all fun j => (an.getD i 0).testBit j || (match ops[j]?, ops[i]? with
   | some x, some y => Oper.apart ops x y && (!clash x y || isPtr x.op && isPtr y.op || lm x y)
   | _, _ => false)
def mks : List Oper → List Nat
 | [] => []
 | o :: r => if maker o.op = true then (match o.dst with | some s => s :: mks r | none => mks r) else mks r
def lds : List Oper → List Operand
 | [] => []
 | o :: r => match o.op with
  | .load _ p => p :: lds r
  | _ => lds r
def NB (x : AV) (k : Nat) : Prop := match x with
 | .ptr k' _ _ => k' ≠ k
 | _ => True
def FarN (x : AV) (base : Nat) : List Nat → Prop
 | [] => True
 | s :: r => NB x (base + s) ∧ FarN x base r
def FarM (S : AState) (base : Nat) (ms : List Nat) : List Operand → Prop
 | [] => True
 | p :: r => FarN (S.ev p) base ms ∧ FarM S base ms r
theorem farN_spec {x : AV} {base : Nat} : ∀ {l : List Nat} {s : Nat}, FarN x base l → s ∈ l → NB x (base + s)
 | a :: r, s, h, hs => by
  rcases List.mem_cons.1 hs with rfl | hs
  ·exact h.1
  ·exact farN_spec h.2 hs
theorem farM_spec {S : AState} {base : Nat} {ms : List Nat} : ∀ {l : List Operand} {p : Operand}, FarM S base ms l → p ∈ l → FarN (S.ev p) base ms
 | a :: r, p, h, hp => by
  rcases List.mem_cons.1 hp with rfl | hp
  ·exact h.1
  ·exact farM_spec h.2 hp
theorem mks_mem {o : Oper} {s : Nat} (hm : maker o.op = true) (hd : o.dst = some s) : ∀ {l : List Oper}, o ∈ l → s ∈ mks l
 | a :: r, h => by
  rcases List.mem_cons.1 h with rfl | h
  ·rw [mks, if_pos hm, hd]; simp
  ·have := mks_mem hm hd h
   rw [mks]
   split
   ·split
    ·exact List.mem_cons_of_mem _ this
    ·exact this
   ·exact this
theorem lds_mem {o : Oper} {p : Operand} (hm : isLoad o.op = true) (hp : ptrOp o.op = some p) : ∀ {l : List Oper}, o ∈ l → p ∈ lds l
 | a :: r, h => by
  rcases List.mem_cons.1 h with rfl | h
  ·cases hop : o.op <;> rw [hop] at hm hp <;> first | cases hm | skip
   simp only [ptrOp, Option.some.injEq] at hp
   subst hp
   rw [lds, hop]; simp
  ·have := lds_mem hm hp h
   rw [lds]
   split
   ·exact List.mem_cons_of_mem _ this
   ·exact this
theorem any_sound5 {n nb base : Nat} {ops : Array Oper} {Q : Exit → Act → World → Prop} {Sf : AState} {G0 : Gh} {w0 : World} {b0 : Bxs} (hreg : regOk5 ops = true) (hal : allocOk ops = true) (hdst : dstOk n ops = true) (hnb : base + n ≤ nb)
  (hfar : Far Sf (ptrs ops.toList)) (hfm : FarM Sf base (mks ops.toList) (lds ops.toList))
  (hQ : ∀ a' w' G', RelS n nb G' Sf a' w' → LeK base G0 w0 b0 G' w' Sf.box → Q .normal a' w') (fuel : Nat) (listed : Array Bool) (rem : List Nat) (S : AState) (a : Act) (w : World) (G : Gh) (hrem : rem = List.range ops.size) (hside : Side ops S)
  (h1 : listed.size = ops.size) (h2 : rem = (List.range ops.size).filter (fun i => !listed.getD i true)) (h3 : rem.length = fuel) (h4 : ∀ i o, ops[i]? = some o → listed.getD i false = true → ∀ j ∈ direct o, listed.getD j false = true)
  (h5 : IRun P false base ops rem S Sf) (h6 : RelS n nb G S a w) (h7 : ∀ i ∈ rem, ∀ o, ops[i]? = some o → Pend P base o G S.box) (h8 : LeK base G0 w0 b0 G w S.box) : wpAny P .any ops Q fuel listed a w := by
 unfold regOk5 at hreg
 simp only [Bool.and_eq_true] at hreg
 obtain ⟨hu, hreg⟩ := hreg
 have key : ∀ (i : Nat) (o : Oper), ops[i]? = some o → (∀ j ∈ direct o, j < i) ∧ ∀ j x, ops[j]? = some x → j < i → ((ancs ops.toList []).getD i 0).testBit j = true ∨ x.apart ops o = true ∧ ((clash x o = false ∨ isPtr x.op = true ∧ isPtr o.op = true) ∨ lm x o = true) := by
  intro i o ho
  have his : i < ops.size := (Array.getElem?_eq_some_iff.1 ho).1
  have hall := List.all_eq_true.1 hreg i (by simpa using his)
  rw [ho] at hall
  simp only [Bool.and_eq_true] at hall
  refine ⟨fun j hj => by simpa using List.all_eq_true.1 hall.1 j hj, fun j x hx hj => ?_⟩
  have h2 := List.all_eq_true.1 hall.2 j (by simpa using hj)
  rw [hx] at h2
  simpa only [Bool.or_eq_true, Bool.and_eq_true, Bool.not_eq_true'] using h2
 have start : Ivs Sf S := by
  intro t
  by_cases hd : ∃ o ∈ ops.toList, o.dst = some t
  ·obtain ⟨o, ho, hd⟩ := hd
   exact .inr (hside o ho t hd)
  ·refine .inl (irun_keeps (fun j _ x hx hxd => hd ⟨x, by simpa using Array.mem_of_getElem? hx, hxd⟩) h5).symm
 refine any_sound' (fun i o ho => (key i o ho).1) (Iv := Ivs Sf) (fun i o S' S'' rest ho hni hst hrun hiv => ivs_step hu i o S' S'' rest ho hni hst hrun hiv) ?_ hal hdst hnb hQ fuel listed rem S a w G h1 h2 h3 h4 start h5 h6 h7 h8
 intro i j o x ho hx hj hb S' S1 S2 hiv g1 g2
 have back : ∀ (z : Operand) k i off, S'.ev z = .ptr k i off → Sf.ev z = .ptr k i off := by
  intro z k i off hz
  cases z with
  | tmp t =>
   rcases hiv t with e | e
   ·exact e.symm.trans hz
   ·have hz' : S'.tmps t = .ptr k i off := hz
    rw [hz'] at e
    exact e.elim
  | const c => exact hz
  | global c => exact hz
  | func c => exact hz
 have nb : ∀ (y z : Oper) (p : Operand) (s : Nat), isLoad y.op = true → ptrOp y.op = some p → y ∈ ops.toList → maker z.op = true → z.dst = some s → z ∈ ops.toList → ∀ k i off, S'.ev p = .ptr k i off → k ≠ base + s := fun y z p s hy hp hym hz hs hzm k i off hk => by
  have := farN_spec (farM_spec hfm (lds_mem hy hp hym)) (mks_mem hz hs hzm)
  rw [back p _ _ _ hk] at this
  exact this
 have hxm : x ∈ ops.toList := by simpa using Array.mem_of_getElem? hx
 have hom : o ∈ ops.toList := by simpa using Array.mem_of_getElem? ho
 rcases (key i o ho).2 j x hx hj with h | ⟨h, h'⟩
 ·rw [hb] at h; cases h
 ·by_cases hlm : lm x o = true
  ·unfold lm at hlm
   simp only [Bool.or_eq_true, Bool.and_eq_true] at hlm
   refine gstep_swap' h (fun {c0 c1 c2 s0 s1 s2 m0 m1 m2 vx vy} e1 e2 => ?_) g1 g2
   unfold Eff at e1 e2 ⊢
   rcases hlm with ⟨q1, q2⟩ | ⟨q1, q2⟩
   ·obtain ⟨k1, p, hp⟩ := isLoad_spec q1
    have k2 := maker_cls q2
    simp only [k1, k2] at e1 e2 ⊢
    obtain ⟨e1, rfl, rfl, rfl⟩ := e1
    obtain ⟨e2, rfl, rfl⟩ := e2
    obtain ⟨s, rows, hs, rfl⟩ := effW_maker' q2 e2
    exact ⟨_, _, _, ⟨e2, rfl, rfl⟩, effR_ptr hp k1 e1 (nb x o p s q1 hp hxm q2 hs hom), rfl, rfl, rfl⟩
   ·obtain ⟨k1, p, hp⟩ := isLoad_spec q2
    have k2 := maker_cls q1
    simp only [k1, k2] at e1 e2 ⊢
    obtain ⟨e1, rfl, rfl⟩ := e1
    obtain ⟨e2, rfl, rfl, rfl⟩ := e2
    obtain ⟨s, rows, hs, rfl⟩ := effW_maker' q1 e1
    exact ⟨_, _, _, ⟨effR_back hp k1 (nb o x p s q2 hp hom q1 hs hxm) e2, rfl, rfl, rfl⟩, e1, rfl, rfl⟩
  ·have h' := h'.resolve_right hlm
   cases hc : clash x o with
   | false => exact gstep_swap h hc g1 g2
   | true =>
    rcases h' with h' | ⟨h1', h2'⟩
    ·rw [hc] at h'; cases h'
    ·obtain ⟨p, hp⟩ := Option.isSome_iff_exists.1 h1'
     obtain ⟨q, hq⟩ := Option.isSome_iff_exists.1 h2'
     have hnk := far_spec hfar hj (by simpa using hx) (by simpa using ho) hp hq hc
     refine gstep_swap' h (fun {c0 c1 c2 s0 s1 s2 m0 m1 m2 vx vy} e1 e2 => ?_) g1 g2
     refine eff_far hp hq (fun k i1 off k' i2 off' hk hk' => ?_) e1 e2
     rw [back p _ _ _ hk, back q _ _ _ hk'] at hnk
     exact hnk
theorem AT.region5 {cx : Cx} {nt0 id : Nat} {ops : Array Oper} {S : AState} {K : Exit → AState → Prop} (hf : P.follows .mixedOrders = true) (hnb : cx.base + cx.n ≤ cx.nb) (hok : (allocOk ops && dstOk cx.n ops && regOk5 ops) = true) (hside : Side ops S)
  (h : ARegion P cx ops true S (fun S' => (Far S' (ptrs ops.toList) ∧ FarM S' cx.base (mks ops.toList) (lds ops.toList)) ∧ K .normal S')) : AT P cx nt0 (.region id ops true) S K := by
 simp only [Bool.and_eq_true] at hok
 obtain ⟨⟨hal, hdst⟩, hreg⟩ := hok
 intro G0 w0 he hn G a w hr hl
 have hd := dstOk_spec hdst
 obtain ⟨b, hb, hr1, hp, hkeep⟩ := preB_sound hnb ops.toList S.box (S := S) hr (fun o ho d hod => hd o d (by simpa using ho) hod) (allocOk_nodup hal) h
 have hl1 : LeC cx G0 w0 G w { S with box := b } := ⟨hl.1, fun k hk hg => by
  rw [← hl.2 k hk hg]
  refine hkeep k fun hm => ?_
  obtain ⟨o, ho, he⟩ := List.mem_filterMap.1 hm
  split at he
  ·rename_i T s h1 h2
   simp only [Option.some.injEq] at he
   subst he
   exact absurd hk (by simp)
  ·cases he⟩
 simp only at hb
 obtain ⟨S', hrun, ⟨hfar, hfm⟩, hK⟩ := hb
 refine wp_region_any hf ?_
 have hrd : RelS cx.n cx.nb G { S with box := b } a w.drew := hr1.drew
 have hld : LeC cx G0 w0 G w.drew { S with box := b } := hl1.step ⟨Le.drew, fun k _ hg => ⟨hg, rfl⟩⟩
 refine any_sound5 (n := cx.n) (nb := cx.nb) (base := cx.base) (Sf := S') (G0 := G) (w0 := w.drew) (b0 := b) hreg hal hdst hnb hfar hfm (fun a' w' G' h1 h2 => ⟨S', G', hK, h1, hld.step h2⟩) ops.size (Array.replicate ops.size false) (List.range ops.size) { S with box := b } a w.drew G rfl hside (by simp) ?_ (by simp) ?_ (IRun.of_all hrun) hrd ?_ (LeK.refl _ _ _ _)
 ·rw [List.filter_eq_self.2]
  intro i hi
  simp at hi
  simp [Array.getD, hi]
 ·intro i o ho hlst
  have hi := (Array.getElem?_eq_some_iff.1 ho).1
  simp [Array.getD, hi] at hlst
 ·intro i _ o ho
  exact hp o (by simpa using Array.mem_of_getElem? ho)
theorem AL.region5 {cx : Cx} {nt0 : Nat} {r : List CI} {K : Exit → AState → Prop} {S : AState} {id : Nat} {ops : Array Oper} (hf : P.follows .mixedOrders = true) (hnb : cx.base + cx.n ≤ cx.nb) (hok : (allocOk ops && dstOk cx.n ops && regOk5 ops) = true) (hs : Side ops S)
  (h : FReg P cx ops true (fun S' => (Far S' (ptrs ops.toList) ∧ FarM S' cx.base (mks ops.toList) (lds ops.toList)) ∧ AL P cx nt0 K r S') S) : AL P cx nt0 K (.c (.region id ops true) :: r) S := by
 simp only [AL]
 exact AT.region5 hf hnb hok hs (fReg_sound h)
end Go.AM
namespace Go.AM
open Go Go.Proofs
@[simp] theorem rep_rB (n : Nat) : List.replicate n [AV.d (.raw (.bool false))] = rowsB (List.replicate n false) := by simp [rowsB]
def mbL (b : Nat → Bool) (n i : Nat) : List Bool := (List.range n).map fun (k : Nat) => decide (k < i) && b k
@[simp] theorem mbL_len (b : Nat → Bool) (n i : Nat) : (mbL b n i).length = n := by simp [mbL]
theorem congrArg₂' {a b c d : List Int} (h : a = b) (k : c = d) : (⟨a, c⟩ : Mo) = ⟨b, d⟩ := by rw [h, k]
theorem mbL_zero (b : Nat → Bool) (n : Nat) : mbL b n 0 = List.replicate n false := by
 refine List.ext_getElem (by simp) fun k h1 h2 => ?_
 simp [mbL]
theorem mbL_set (b : Nat → Bool) {n i : Nat} (h : i < n) : (mbL b n i).set i (b i) = mbL b n (i + 1) := by
 refine List.ext_getElem (by simp) fun k h1 h2 => ?_
 rw [List.getElem_set]
 simp only [mbL, List.getElem_map, List.getElem_range]
 split
 ·rename_i e; subst e; simp
 ·rename_i e
  have : (k < i + 1) = (k < i) := by rw [eq_iff_iff]; omega
  simp [this]
theorem mbL_get (b : Nat → Bool) {n k : Nat} (h : k < n) : (mbL b n n).getD k false = b k := by simp [mbL, h]
abbrev m7N (g : Gr) (S : Int) (i : Nat) : List Bool := mbL (bitV S) g.nodes.length i
abbrev m7E (g : Gr) (S : Int) (i : Nat) : List Bool := mbL (fun j => bitV S (g.nodes.length + j)) g.edges.length i
def stM7a (g : Gr) (S : Int) (nb : Nat) (box : Bxs) (tok : Tks) (nt i : Nat) : AState :=
 ⟨tl [(7, I i), (6, .msl (nb + 16) 0 g.edges.length 1), (5, .msl (nb + 12) 0 g.nodes.length 1), (1, .d (u64 S)), (2, .ptr (nb + 2) 0 0), (4, .ptr (nb + 4) 0 0)], lb nb box [(16, rowsB (m7E g S 0)), (12, rowsB (m7N g S i)), (2, [[.d (ints g.nodes), .d (AM.edges g.edges)]]), (4, [[nilS, nilS]])], tok, nt⟩
def stM7b (g : Gr) (S : Int) (nb : Nat) (box : Bxs) (tok : Tks) (nt i : Nat) : AState :=
 ⟨tl [(8, I i), (6, .msl (nb + 16) 0 g.edges.length 1), (5, .msl (nb + 12) 0 g.nodes.length 1), (1, .d (u64 S)), (2, .ptr (nb + 2) 0 0), (4, .ptr (nb + 4) 0 0)], lb nb box [(16, rowsB (m7E g S i)), (12, rowsB (m7N g S g.nodes.length)), (2, [[.d (ints g.nodes), .d (AM.edges g.edges)]]), (4, [[nilS, nilS]])], tok, nt⟩
theorem to_frzB {p q : Nat → Prop} {k n : Nat} {L : List Bool} (h : L.length = n) : To p q (some (k, 1, rB L)) (.msl k 0 n 1) (.d (bls L)) := by
 have h2 := To.frz (p := p) (q := q) (fz := some (k, 1, rB L)) (k := k) (sz := 1) (es := rB L) rfl
 have : (rB L).length = n := by simp [rB, h]
 rw [this] at h2
 exact h2
theorem made07_c (g : Gr) (hg : g.Fit) (hv : validG g = 0) (S : Int) (tok : Tks) (nt : Nat) : DCall Tryz.prog 137 [g.av, .d (u64 S)] tok nt (mad7 g S).av tok nt := by
 intro box nb
 have hgn := hg.n
 have hge := hg.e
 have hL := least_c g hg hv (m7N g S g.nodes.length) (m7E g S g.edges.length) (by simp) (by simp)
 have hLe : lstP g (fun k => (m7N g S g.nodes.length).getD k false) (fun k => (m7E g S g.edges.length).getD k false) = mad7 g S := by
  unfold mad7 lstP
  have e2 : ∀ k, k < g.edges.length → (m7E g S g.edges.length).getD k false = bitV S (g.nodes.length + k) := fun k hk => mbL_get _ hk
  refine congrArg₂' ?_ (mkL_ext e2)
  refine mkL_ext fun k hk => ?_
  have e1 : (m7N g S g.nodes.length).getD k false = bitV S k := mbL_get _ hk
  unfold lsN
  show ((m7N g S g.nodes.length).getD k false || _) = (bitV S k || _)
  rw [e1]
  congr 1
  rw [Bool.eq_iff_iff, List.any_eq_true, List.any_eq_true]
  refine exists_congr fun j => and_congr_right fun hj => ?_
  show ((m7E g S g.edges.length).getD j false && _) = true ↔ (bitV S (g.nodes.length + j) && _) = true
  rw [e2 j (List.mem_range.1 hj)]
 rw [hLe] at hL
 have hrN : List.replicate g.nodes.length [B false] = rowsB (m7N g S 0) := by rw [m7N, mbL_zero]; unfold rowsB; rw [List.map_replicate]
 have hrE : List.replicate g.edges.length [B false] = rowsB (m7E g S 0) := by rw [m7E, mbL_zero]; unfold rowsB; rw [List.map_replicate]
 refine sB Tryz.func137 Tryz.ntmps137 ?_
 intro hbox htok
 simp only at hbox htok
 apply AL.start
 refine sR ?_
 simp
 refine sN ?_
 refine AL.region5 follows_Tryz (Nat.le_refl _) (by kernel_rfl) (Side.of (by simp)) ?_
 simp [FarM, FarN, NB, mks, lds, maker]
 refine ⟨by omega, by omega, ?_⟩
 try (simp)
 repeat (refine sR ?_; simp)
 refine sN ?_
 refine AL.loopT (stM7a g S nb box tok nt) (fun i => i ≤ g.nodes.length) (fun i => g.nodes.length - i) 0 (Nat.zero_le _) (Weaks.mk (Nat.le_refl _) rfl (by simp [ToL, lk]) (by simp [BoxL, lk, m7N, m7E, mbL_zero])) ?_
 rintro i S' hi hS
 simp only [stM7a] at hS
 subst hS
 have hw := sW (i := i) (by omega)
 have hln : (m7N g S i).length = g.nodes.length := mbL_len _ _ _
 try (simp)
 repeat (refine sR ?_; simp)
 refine sC ?_
 simp
 refine ⟨fun hlt => ?_, fun hge => ?_⟩
 ·have hst := mbL_set (bitV S) hlt
  have ht : (i : Int).tmod 64 = (i : Int) % 64 := Int.tmod_eq_emod_of_nonneg (by omega)
  have h0 : (0 : Int) ≤ (i : Int) % 64 := by omega
  try (simp [hlt, ht, h0])
  repeat (refine sR ?_; simp [hlt, ht, h0])
  have hbit : (IntKind.u64.wrap ((((S.fdiv (2 ^ min (((i : Int) % 64)).toNat IntKind.u64.bits) % 2 ^ IntKind.u64.bits).toNat &&& (1 % 2 ^ IntKind.u64.bits) : Nat) : Int)) == 1) = bitV S i := rfl
  simp only [hbit]
  try (simp [hw, hst])
  repeat (refine sR ?_; simp [hw, hst])
  refine sE ?_
  exact ⟨i + 1, hlt, by omega, Weaks.mk (Nat.le_refl _) rfl (by simp [ToL, lk]) (by simp [BoxL, lk, m7N, hst])⟩
 ·refine sX ?_
  simp only [AU, ↓reduceIte]
  have : i = g.nodes.length := by omega
  subst this
  try (simp)
  repeat (refine sR ?_; simp)
  refine sN ?_
  refine AL.loopT (stM7b g S nb box tok nt) (fun i => i ≤ g.edges.length) (fun i => g.edges.length - i) 0 (Nat.zero_le _) (Weaks.mk (Nat.le_refl _) rfl (by simp [ToL, lk]) (by simp [BoxL, lk])) ?_
  rintro i S' hi hS
  simp only [stM7b] at hS
  subst hS
  have hw := sW (i := i) (by omega)
  have hw2 : IntKind.i64.wrap ((g.nodes.length : Int) + ↑i) = ((g.nodes.length + i : Nat) : Int) := by rw [wrap_in (by omega) (by omega)]; simp
  have hle : (m7E g S i).length = g.edges.length := mbL_len _ _ _
  try (simp)
  repeat (refine sR ?_; simp)
  refine sC ?_
  simp
  refine ⟨fun hlt => ?_, fun hge => ?_⟩
  ·have hst := mbL_set (fun j => bitV S (g.nodes.length + j)) hlt
   have ht : ((g.nodes.length : Int) + (i : Int)).tmod 64 = ((g.nodes.length : Int) + (i : Int)) % 64 := Int.tmod_eq_emod_of_nonneg (by omega)
   have h0 : (0 : Int) ≤ ((g.nodes.length : Int) + (i : Int)) % 64 := by omega
   try (simp [hlt, hw2, ht, h0])
   repeat (refine sR ?_; simp [hlt, hw2, ht, h0])
   have hbit : (IntKind.u64.wrap ((((S.fdiv (2 ^ min ((((g.nodes.length : Int) + (i : Int)) % 64)).toNat IntKind.u64.bits) % 2 ^ IntKind.u64.bits).toNat &&& (1 % 2 ^ IntKind.u64.bits) : Nat) : Int)) == 1) = bitV S (g.nodes.length + i) := by
    unfold bitV
    rw [Int.natCast_add]
   simp only [hbit]
   try (simp [hw, hst])
   repeat (refine sR ?_; simp [hw, hst])
   refine sE ?_
   exact ⟨i + 1, hlt, by omega, Weaks.mk (Nat.le_refl _) rfl (by simp [ToL, lk]) (by simp [BoxL, lk, m7E, hst])⟩
  ·refine sX ?_
   simp only [AU, ↓reduceIte]
   have : i = g.edges.length := by omega
   subst this
   refine AL.weak (Weaks.frz (l' := [(6, .d (bls (m7E g S g.edges.length))), (5, .msl (nb + 12) 0 g.nodes.length 1), (2, .ptr (nb + 2) 0 0), (4, .ptr (nb + 4) 0 0)]) (loc' := [(12, rowsB (m7N g S g.nodes.length)), (2, [[.d (ints g.nodes), .d (AM.edges g.edges)]]), (4, [[nilS, nilS]])]) 16 1 (rB (m7E g S g.edges.length)) (Nat.le_refl _) rfl (by simp [lk, rowsB_eq, rB]) (by simp [lk]) (fun e he => by obtain ⟨b, _, rfl⟩ := List.mem_map.1 he; rfl) (by simp [ToL, lk, lb_at]; exact to_frzB hle) (by simp [BoxL, lk])) ?_
   have hln : (m7N g S g.nodes.length).length = g.nodes.length := mbL_len _ _ _
   refine AL.weak (Weaks.frz (l' := [(6, .d (bls (m7E g S g.edges.length))), (5, .d (bls (m7N g S g.nodes.length))), (2, .ptr (nb + 2) 0 0), (4, .ptr (nb + 4) 0 0)]) (loc' := [(2, [[.d (ints g.nodes), .d (AM.edges g.edges)]]), (4, [[nilS, nilS]])]) 12 1 (rB (m7N g S g.nodes.length)) (Nat.le_refl _) rfl (by simp [lk, rowsB_eq, rB]) (by simp [lk]) (fun e he => by obtain ⟨b, _, rfl⟩ := List.mem_map.1 he; rfl) (by simp [ToL, lk, lb_at]; exact to_frzB hln) (by simp [BoxL, lk])) ?_
   try (simp)
   repeat (refine sR ?_; simp)
   refine Stop.of_d (hL _ _) ?_
   simp
   try (simp)
   repeat (refine sR ?_; simp)
   refine sT ?_
   try simp only [AU]
   refine ⟨by simp, sF hbox htok (fun _ h => h) (Nat.le_refl _) ?_⟩
   simp [packA]
end Go.AM
namespace Go.AM
open Go Go.Proofs
set_option maxRecDepth 100000 in
theorem made34_c (x : Dx) (hx : x.U8) (tok : Tks) (nt : Nat) : DCall Tryz.prog 75 [x.av] tok nt (Sp.ru x.sp).av tok nt := by
 intro box nb
 have o := Dx.ok hx
 have hon := o.n
 have hoe := o.e
 have gf : x.g.Fit := ⟨by omega, by omega⟩
 have kl := o.k.len
 have kf : x.k.Fit := ⟨by omega, by omega⟩
 have ef : (exG x.g x.k).Fit := ⟨by simp [exG]; omega, by simp [exG]; omega⟩
 have h1 := made25_c x.dr hx.dr
 have h2 := made07_c x.g gf o.v x.keep
 have h3 := extract07_c x.g x.k gf kf o.k
 have h4 := grown10_c (exG x.g x.k) ef x.cs hx.cs (by simp [Dx.cs]; omega) (by simp [Dx.cs]) rfl
 have h5 := of34_c x.g x.right x.k (idM (exG x.g x.k))
 have hml := hx.ml
 have hnl := hx.nl
 have hel := hx.el
 have m1 : (min (x.left.nodes.length : Int) 3).toNat = min x.left.nodes.length 3 := by omega
 have m2 : (min (x.left.edges.length : Int) 3).toNat = min x.left.edges.length 3 := by omega
 have eav : x.dr.av = .agg [.d (.sl 1 (List.take (min x.left.nodes.length 3) (x.left.nodes.map fun n => [u8 n]))), .d (.sl 3 (List.take (min x.left.edges.length 3) (x.left.edges.map fun e => [u8 e.1, u8 e.2.1, u8 e.2.2])))] := by simp [Dx.dr, List.map_take]
 have eg : madeG x.dr = x.g := rfl
 rw [eav, eg] at h1
 have esp : (⟨x.g, x.right, x.k, idM (exG x.g x.k)⟩ : Sp) = x.sp := rfl
 rw [esp] at h5
 have m3 : (min (x.more.length : Int) 6).toNat = min x.more.length 6 := by omega
 have ecs : bytes x.cs = .sl 1 ([D.raw (.int .u8 255)] :: List.take (min x.more.length 6) (x.more.map fun n => [u8 n])) := by simp [Dx.cs, bytes, List.map_take]
 have er : gwG (exG x.g x.k) x.cs = x.right := rfl
 rw [ecs, er] at h4
 have ek : mad7 x.g x.keep = x.k := rfl
 rw [ek] at h2
 refine sB Tryz.func75 Tryz.ntmps75 ?_
 intro hbox htok
 simp only at hbox htok
 apply AL.start
 try (simp)
 repeat (refine sR ?_; simp)
 simp only [m1, m2]
 refine ⟨by omega, by omega, ?_⟩
 try (simp)
 repeat (refine sR ?_; simp)
 refine Stop.of_d (h1 _ _) ?_
 simp
 try (simp)
 repeat (refine sR ?_; simp)
 refine Stop.of_d (h2 _ _) ?_
 simp
 try (simp)
 repeat (refine sR ?_; simp)
 refine Stop.of_d (h3 _ _) ?_
 simp
 try (simp)
 repeat (refine sR ?_; simp)
 refine ⟨by omega, by omega, ?_⟩
 simp only [m3]
 refine Stop.data ?_
 refine Stop.of_d (h4 _ _) ?_
 simp
 try (simp)
 repeat (refine sR ?_; simp)
 refine Stop.of_d (h5 _ _) ?_
 simp
 try (simp)
 repeat (refine sR ?_; simp)
 have htk : TK tok nt (upd tok nt true) (nt + 1) [.tok nt] := ((TK.start htok).full).app
 refine sT ?_
 try simp only [AU]
 refine ⟨by simp, sF hbox htok htk.old htk.le ?_⟩
 simp [packA]
end Go.AM
namespace Go.AM
open Go Go.Proofs
structure CodeS (a b c : Int) : Prop where
 ra2 : a.tmod 2 = a % 2
 ra3 : a.tmod 3 = a % 3
 rb3 : b.tmod 3 = b % 3
 wb3 : IntKind.i64.wrap (b % 3) = b % 3
 qa8 : IntKind.u8.wrap (a.tdiv 8) = a / 8
 ra8 : (a / 8).tmod 2 = a / 8 % 2
 wa8 : IntKind.i64.wrap (a / 8 % 2) = a / 8 % 2
 qb4 : IntKind.u8.wrap (b.tdiv 4) = b / 4
 wb4 : IntKind.i64.wrap (b / 4) = b / 4
 rb4 : ∀ n : Nat, (b / 4).tmod n = b / 4 % n
 wc : IntKind.i64.wrap c = c
 rc : ∀ n : Nat, c.tmod n = c % n
theorem codeS {a b c : Int} (a0 : 0 ≤ a ∧ a < 256) (b0 : 0 ≤ b ∧ b < 256) (c0 : 0 ≤ c ∧ c < 256) : CodeS a b c := by
 have e : ∀ x k : Int, 0 ≤ x → x.tdiv k = x / k := fun x k h => Int.tdiv_eq_ediv_of_nonneg h
 refine ⟨Int.tmod_eq_emod_of_nonneg a0.1, Int.tmod_eq_emod_of_nonneg a0.1, Int.tmod_eq_emod_of_nonneg b0.1, wrap_in (by omega) (by omega), ?_, Int.tmod_eq_emod_of_nonneg (by omega), wrap_in (by omega) (by omega), ?_, wrap_in (by omega) (by omega), fun n => Int.tmod_eq_emod_of_nonneg (by omega), wrap_in (by omega) (by omega), fun n => Int.tmod_eq_emod_of_nonneg (by omega)⟩
 ·rw [e _ _ a0.1]; exact wrapU8 (by omega) (by omega)
 ·rw [e _ _ b0.1]; exact wrapU8 (by omega) (by omega)
structure AccS where
 i : Nat
 j : Nat
 o1 : Own
 o2 : Own
 tok : Nat → Bool
 nt : Nat
abbrev zRowS : List AV := [.d (.raw (.string ⟨#[]⟩)), nilS, nilS, nilS, I 0, nilS, nilS, nilS, nilS, I 0, nilS, nilS, nilS, nilS, nilS, B false, I 0, nilS, nilS, nilS, nilS, nilS, nilS, I 0, nilS]
def stSc (x : Scn) (nb : Nat) (box : Bxs) (y : AccS) : AState :=
 ⟨tl [(9, I y.i), (8, .ptr (nb + 8) 0 0), (7, .ptr (nb + 7) 0 0), (6, .ptr (nb + 6) 0 0), (4, .ptr (nb + 4) 0 0), (3, .ptr (nb + 3) 0 0), (2, .ptr (nb + 2) 0 0), (1, .ptr (nb + 1) 0 0)],
  lb nb box [(8, [[.d (ints (iota x.r.g.nodes.length)), .d (ints (iota x.r.g.edges.length))]]), (7, [[.osl 1 (rI (scK x.r.g x.more y.j).nodes) y.o1, .osl 3 (rE (scK x.r.g x.more y.j).edges) y.o2]]), (6, [x.r.sp.ru.row]),
   (1, [[.d (.sl 1 (x.r.left.nodes.map fun n => [u8 n])), .d (.sl 3 (x.r.left.edges.map fun e => [u8 e.1, u8 e.2.1, u8 e.2.2])), .d (u64 x.r.keep), .d (bytes x.r.more), .d (bytes x.codes), .d (bytes x.more)]]), (4, [[nilS, nilS]]), (3, [[nilS, nilS]]), (2, [zRowS])], y.tok, y.nt⟩
set_option maxRecDepth 100000 in
theorem scene34_c (x : Scn) (hx : x.U8) (tok : Tks) (nt : Nat) : DCall Tryz.prog 25 [x.av] tok nt (.tup [(Sp.ru x.r.sp).av, x.g.av, (idM x.r.g).av, B (decide (x.codes.length ≤ 12))]) tok nt := by
 intro box nb
 have o := Dx.ok hx.r
 have hon := o.n
 have hoe := o.e
 have gf : x.r.g.Fit := ⟨by omega, by omega⟩
 have h1 := made34_c x.r hx.r
 have h2 := copied_c x.r.g gf
 have h3 := of_c x.r.g gf
 have hml := hx.ml
 have hmu := hx.m
 refine sB Tryz.func25 Tryz.ntmps25 ?_
 intro hbox htok
 simp only at hbox htok
 apply AL.start
 try (simp)
 repeat (refine sR ?_; simp)
 refine Stop.of_d (h1 _ _) ?_
 simp
 try (simp)
 repeat (refine sR ?_; simp)
 refine Stop.of_d (h2 _ _) ?_
 simp
 refine Stop.of_d (h3 _ _) ?_
 simp
 try (simp)
 repeat (refine sR ?_; simp)
 refine sN ?_
 have htk0 : TK tok nt (upd (upd tok nt true) (nt + 1) true) (nt + 2) [.tok nt, .tok (nt + 1)] := ((TK.start htok).full.app.full.app.swap)
 refine AL.loopT (stSc x nb box) (fun y => y.i = 3 * y.j ∧ y.j ≤ scN x.more ∧ TK tok nt y.tok y.nt [y.o1, y.o2]) (fun y => 3 - y.j) ⟨0, 0, .tok nt, .tok (nt + 1), _, _⟩ ⟨rfl, Nat.zero_le _, htk0⟩ (Weaks.mk htk0.le rfl (by simp [ToL, lk]) (by simp [BoxL, lk, scK])) ?_
 clear htk0
 rintro ⟨i, j, o1, o2, tok1, nt1⟩ S ⟨hij, hj, htk⟩ hS
 simp only [stSc] at hS hij hj htk
 subst hS
 have hsn : scN x.more = min 3 (x.more.length / 3) := rfl
 have w1 := sW (i := i) (by omega)
 have w2 : IntKind.i64.wrap (↑i + 2) = ((i + 2 : Nat) : Int) := by rw [wrap_in (by omega) (by omega)]; rfl
 have w3 : IntKind.i64.wrap (↑i + 3) = ((i + 3 : Nat) : Int) := by rw [wrap_in (by omega) (by omega)]; rfl
 have hw := (scK_gw x.r.g x.more j).len
 by_cases hgo : j < scN x.more
 ·have hl2 : i + 2 < x.more.length := by omega
  have hl1 : i + 1 < x.more.length := by omega
  have hl0 : i < x.more.length := by omega
  have hl2' : (i : Int) + 2 < x.more.length := by omega
  have h9 : (i : Int) < 9 := by omega
  have hl1' : (i : Int) + 1 < x.more.length := by omega
  have p1 : (0 : Int) ≤ (i : Int) + 1 := by omega
  have p2 : (0 : Int) ≤ (i : Int) + 2 := by omega
  have t1 : ((i : Int) + 1).toNat = i + 1 := by omega
  have t2 : ((i : Int) + 2).toNat = i + 2 := by omega
  have g1 : x.more[i + 1]? = some x.more[i + 1] := List.getElem?_eq_getElem hl1
  have g2 : x.more[i + 2]? = some x.more[i + 2] := List.getElem?_eq_getElem hl2
  have hb0 := bytes_at hl0
  have hb1 := bytes_at hl1
  have hb2 := bytes_at hl2
  have hmore : scK x.r.g x.more (j + 1) = scS (scK x.r.g x.more j) x.more[i] x.more[i + 1] x.more[i + 2] := by
   rw [scK]
   congr 1 <;> (rw [List.getD_eq_getElem?_getD, List.getElem?_eq_getElem (by omega)]; simp [hij])
  have a0 := hmu _ (List.getElem_mem hl0)
  have b0 := hmu _ (List.getElem_mem hl1)
  have c0 := hmu _ (List.getElem_mem hl2)
  have C := codeS a0 b0 c0
  obtain ⟨N, M, hNM⟩ : ∃ N M, scK x.r.g x.more j = ⟨N, M⟩ := ⟨_, _, rfl⟩
  obtain ⟨N2, M2, hNM2⟩ : ∃ N2 M2, scK x.r.g x.more (j + 1) = ⟨N2, M2⟩ := ⟨_, _, rfl⟩
  rw [hNM] at hw hmore ⊢
  rw [hNM2] at hmore
  simp only [scS, Gr.mk.injEq] at hmore
  obtain ⟨hN, hE⟩ := hmore
  simp only at hw
  try (simp [hl2', h9, w2])
  repeat (refine sR ?_; simp [hl2', h9, w2])
  refine sC ?_
  simp [hl2', h9]
  by_cases ev : x.more[i] % 2 = 0
  ·rw [if_pos ev] at hN hE
   try (simp [hl0, hb0, C.ra2, ev])
   repeat (refine sR ?_; simp [hl0, hb0, C.ra2, ev])
   refine sC ?_
   simp [C.ra2, ev]
   try (simp [w1, hl1', p1, t1, g1, C.rb3, C.wb3])
   repeat (refine sR ?_; simp [w1, hl1', p1, t1, g1, C.rb3, C.wb3])
   refine ⟨⟨by omega, htk.live⟩, ?_⟩
   have hrI : rI N ++ [[D.raw (.int .i64 (x.more[i + 1] % 3))]] = rI N2 := by rw [hN]; simp [rI]
   rw [← hN] at hE
   have hl : N2.length ≤ N.length + 1 := by rw [hN]; simp
   simp only [hrI]
   have htk2 : TK tok nt (upd (o1.kill tok1) nt1 true) (nt1 + 1) [.tok nt1, o2] := htk.app
   by_cases hn0 : 0 < N2.length
   ·have hn0' : (0 : Int) < N2.length := by omega
    have hnz : ¬ (N2.length : Int) = 0 := by omega
    have hnz2 : ¬ N2 = [] := fun h => by rw [h] at hn0; simp at hn0
    have r4 := C.rb4 N2.length
    have rc := C.rc N2.length
    by_cases ha3 : 0 < x.more[i] % 3
    ·rw [if_pos ⟨hn0, ha3⟩] at hE
     try (simp [hn0', hn0, hnz, hnz2, hl0, hb0, C.ra3, ha3])
     repeat (refine sR ?_; simp [hn0', hn0, hnz, hnz2, hl0, hb0, C.ra3, ha3])
     refine sC ?_
     simp [hn0', hn0, hnz, hnz2, hl0, hb0, C.ra3, ha3]
     try (simp [hl0, hl1', hl2', p1, p2, t1, t2, g1, g2, hb0, w1, w2, C.qa8, C.ra8, C.wa8, C.qb4, C.wb4, r4, C.wc, rc, hnz, hnz2, hn0'])
     repeat (refine sR ?_; simp [hl0, hl1', hl2', p1, p2, t1, t2, g1, g2, hb0, w1, w2, C.qa8, C.ra8, C.wa8, C.qb4, C.wb4, r4, C.wc, rc, hnz, hnz2, hn0'])
     refine ⟨⟨by omega, htk2.swap.live⟩, ?_⟩
     try (simp [w3])
     repeat (refine sR ?_; simp [w3])
     refine sE ?_
     refine ⟨⟨i + 3, j + 1, .tok nt1, .tok (nt1 + 1), upd (o2.kill (upd (o1.kill tok1) nt1 true)) (nt1 + 1) true, nt1 + 1 + 1⟩, ⟨by simp only; omega, by simp only; omega, htk2.swap.app.swap⟩, by simp only; omega, ?_⟩
     simp only [stSc, hNM2]
     exact Weaks.mk htk2.swap.app.swap.le rfl (by simp [ToL, lk, w3]) (by simp [BoxL, lk, hE, rE])
    ·rw [if_neg fun h => ha3 h.2] at hE
     try (simp [hn0', hn0, hnz, hnz2, hl0, hb0, C.ra3, ha3])
     repeat (refine sR ?_; simp [hn0', hn0, hnz, hnz2, hl0, hb0, C.ra3, ha3])
     refine sC ?_
     simp [hn0', hn0, hnz, hnz2, hl0, hb0, C.ra3, ha3]
     try (simp [w3])
     repeat (refine sR ?_; simp [w3])
     refine sE ?_
     refine ⟨⟨i + 3, j + 1, .tok nt1, o2, upd (o1.kill tok1) nt1 true, nt1 + 1⟩, ⟨by simp only; omega, by simp only; omega, htk2⟩, by simp only; omega, ?_⟩
     simp only [stSc, hNM2]
     exact Weaks.mk htk2.le rfl (by simp [ToL, lk, w3]) (by simp [BoxL, lk, hE])
   ·rw [if_neg fun h => hn0 h.1] at hE
    have hz : N2 = [] := List.length_eq_zero_iff.1 (by omega)
    try (simp [hz, hn0])
    repeat (refine sR ?_; simp [hz, hn0])
    refine sC ?_
    simp [hz, hn0]
    try (simp [w3])
    repeat (refine sR ?_; simp [w3])
    refine sE ?_
    refine ⟨⟨i + 3, j + 1, .tok nt1, o2, upd (o1.kill tok1) nt1 true, nt1 + 1⟩, ⟨by simp only; omega, by simp only; omega, htk2⟩, by simp only; omega, ?_⟩
    simp only [stSc, hNM2]
    exact Weaks.mk htk2.le rfl (by simp [ToL, lk, w3]) (by simp [BoxL, lk, hE, hz])
  ·rw [if_neg ev] at hN hE
   try (simp [hl0, hb0, C.ra2, ev])
   repeat (refine sR ?_; simp [hl0, hb0, C.ra2, ev])
   refine sC ?_
   simp [C.ra2, ev]
   rw [← hN] at hE
   have hl : N2.length ≤ N.length + 1 := by rw [hN]; omega
   rw [← hN]
   have htk2 : TK tok nt (tok1) (nt1) [o1, o2] := htk
   by_cases hn0 : 0 < N2.length
   ·have hn0' : (0 : Int) < N2.length := by omega
    have hnz : ¬ (N2.length : Int) = 0 := by omega
    have hnz2 : ¬ N2 = [] := fun h => by rw [h] at hn0; simp at hn0
    have r4 := C.rb4 N2.length
    have rc := C.rc N2.length
    by_cases ha3 : 0 < x.more[i] % 3
    ·rw [if_pos ⟨hn0, ha3⟩] at hE
     try (simp [hn0', hn0, hnz, hnz2, hl0, hb0, C.ra3, ha3])
     repeat (refine sR ?_; simp [hn0', hn0, hnz, hnz2, hl0, hb0, C.ra3, ha3])
     refine sC ?_
     simp [hn0', hn0, hnz, hnz2, hl0, hb0, C.ra3, ha3]
     try (simp [hl0, hl1', hl2', p1, p2, t1, t2, g1, g2, hb0, w1, w2, C.qa8, C.ra8, C.wa8, C.qb4, C.wb4, r4, C.wc, rc, hnz, hnz2, hn0'])
     repeat (refine sR ?_; simp [hl0, hl1', hl2', p1, p2, t1, t2, g1, g2, hb0, w1, w2, C.qa8, C.ra8, C.wa8, C.qb4, C.wb4, r4, C.wc, rc, hnz, hnz2, hn0'])
     refine ⟨⟨by omega, htk2.swap.live⟩, ?_⟩
     try (simp [w3])
     repeat (refine sR ?_; simp [w3])
     refine sE ?_
     refine ⟨⟨i + 3, j + 1, o1, .tok (nt1), upd (o2.kill (tok1)) (nt1) true, nt1 + 1⟩, ⟨by simp only; omega, by simp only; omega, htk2.swap.app.swap⟩, by simp only; omega, ?_⟩
     simp only [stSc, hNM2]
     exact Weaks.mk htk2.swap.app.swap.le rfl (by simp [ToL, lk, w3]) (by simp [BoxL, lk, hE, rE])
    ·rw [if_neg fun h => ha3 h.2] at hE
     try (simp [hn0', hn0, hnz, hnz2, hl0, hb0, C.ra3, ha3])
     repeat (refine sR ?_; simp [hn0', hn0, hnz, hnz2, hl0, hb0, C.ra3, ha3])
     refine sC ?_
     simp [hn0', hn0, hnz, hnz2, hl0, hb0, C.ra3, ha3]
     try (simp [w3])
     repeat (refine sR ?_; simp [w3])
     refine sE ?_
     refine ⟨⟨i + 3, j + 1, o1, o2, tok1, nt1⟩, ⟨by simp only; omega, by simp only; omega, htk2⟩, by simp only; omega, ?_⟩
     simp only [stSc, hNM2]
     exact Weaks.mk htk2.le rfl (by simp [ToL, lk, w3]) (by simp [BoxL, lk, hE])
   ·rw [if_neg fun h => hn0 h.1] at hE
    have hz : N2 = [] := List.length_eq_zero_iff.1 (by omega)
    try (simp [hz, hn0])
    repeat (refine sR ?_; simp [hz, hn0])
    refine sC ?_
    simp [hz, hn0]
    try (simp [w3])
    repeat (refine sR ?_; simp [w3])
    refine sE ?_
    refine ⟨⟨i + 3, j + 1, o1, o2, tok1, nt1⟩, ⟨by simp only; omega, by simp only; omega, htk2⟩, by simp only; omega, ?_⟩
    simp only [stSc, hNM2]
    exact Weaks.mk htk2.le rfl (by simp [ToL, lk, w3]) (by simp [BoxL, lk, hE, hz])
 ·have hj3 : j = scN x.more := by omega
  subst hj3
  have hd : decide ((x.codes.length : Int) ≤ 12) = decide (x.codes.length ≤ 12) := decide_eq_decide.2 (by omega)
  have hG : x.g = scK x.r.g x.more (scN x.more) := rfl
  rw [hG]
  by_cases h9 : (i : Int) < 9
  ·have hl2' : ¬ (i : Int) + 2 < x.more.length := by omega
   try (simp [hl2', h9, w2])
   repeat (refine sR ?_; simp [hl2', h9, w2])
   refine sC ?_
   simp [hl2', h9]
   refine sX ?_
   simp only [AU, ↓reduceIte]
   refine sN ?_
   refine AL.region2 follows_Tryz (Nat.le_refl _) (by kernel_rfl) (Side.of (by simp)) ?_
   simp
   refine sT ?_
   try simp only [AU]
   refine ⟨by simp, sF hbox htok htk.old htk.le ?_⟩
   simp [packA, idM, hd]
  ·by_cases hl2' : (i : Int) + 2 < x.more.length
   ·try (simp [hl2', h9, w2])
    repeat (refine sR ?_; simp [hl2', h9, w2])
    refine sC ?_
    simp [hl2', h9]
    refine sX ?_
    simp only [AU, ↓reduceIte]
    refine sN ?_
    refine AL.region2 follows_Tryz (Nat.le_refl _) (by kernel_rfl) (Side.of (by simp)) ?_
    simp
    refine sT ?_
    try simp only [AU]
    refine ⟨by simp, sF hbox htok htk.old htk.le ?_⟩
    simp [packA, idM, hd]
   ·try (simp [hl2', h9, w2])
    repeat (refine sR ?_; simp [hl2', h9, w2])
    refine sC ?_
    simp [hl2', h9]
    refine sX ?_
    simp only [AU, ↓reduceIte]
    refine sN ?_
    refine AL.region2 follows_Tryz (Nat.le_refl _) (by kernel_rfl) (Side.of (by simp)) ?_
    simp
    refine sT ?_
    try simp only [AU]
    refine ⟨by simp, sF hbox htok htk.old htk.le ?_⟩
    simp [packA, idM, hd]
end Go.AM
namespace Go.AM
open Go Go.Proofs
theorem thr_fit : thrT.Fit := ⟨by decide, by decide, by decide, by decide, by simp [thrT]⟩
theorem beh_dang {s : Sp} {g : Gr} {m : Mo} (h : (behR s g m).2 = true) : dangL g s.k m = false := by
 unfold behR at h
 split at h
 ·cases h
 ·rename_i hd
  simpa using hd
theorem stg_fit {s : Sp} {g : Gr} (st : Stg s g) : s.l.Fit ∧ s.r.Fit ∧ g.Fit ∧ (idM s.l).Fit := by
 have h1 := st.n; have h2 := st.e; have h3 := st.rn; have h4 := st.re; have h5 := st.gn; have h6 := st.ge
 exact ⟨⟨by omega, by omega⟩, ⟨by omega, by omega⟩, ⟨by omega, by omega⟩, ⟨by simp [idM]; omega, by simp [idM]; omega⟩⟩
set_option maxRecDepth 100000 in
theorem lawPrunes_c (x : Scn) (hx : x.U8) (tok : Tks) (nt : Nat) : ∃ tok' nt', DCall Tryz.prog 10 [x.av] tok nt (B true) tok' nt' := by
 refine ⟨tok, nt, ?_⟩
 intro box nb
 have hsc := scene34_c x hx
 obtain ⟨st, _, _, _⟩ := Scn.stg hx
 have hs := st.spok
 have hm := st.lg.emb
 have hb := behind34_c x.r.sp x.g (idM x.r.g) hs hm
 obtain ⟨fl, fr, fg, fm⟩ := stg_fit st
 have hinj := injective56_c x.r.g x.g (idM x.r.g) fl fg fm
 have hi : injM x.r.g x.g (idM x.r.g) = true := hm.inj
 rw [hi] at hinj
 have hn3 : x.r.g.nodes.length ≤ 3 := st.n
 have he3 : x.r.g.edges.length ≤ 3 := st.e
 have va : validG x.r.g = 0 := hm.vm.va
 have vb := hs.i.vm.vb
 have hstr := ru_str hs va vb
 have hrf := ru_fit hs va vb
 have hmk := fun (h : x.codes.length ≤ 12) => made33_c x.r.g x.codes hx.c (by omega) va (by omega) (by omega)
 have hok := madeR_ok hx.c va (show x.r.g.nodes.length ≤ 10 by omega) (by omega)
 have hpr := pruneP_c thrT thr_fit x.r.sp.ru hrf (madeR x.r.g x.codes) hok.fit
 have hlaw := fun (h : dangL x.g x.r.sp.k (idM x.r.g) = false) => prunes_law (r := x.r.sp.ru) (g := x.g) (m := idM x.r.g) thr_err hstr hm h hok
 have hcf := hok.fit
 have s1 := satisfies_c x.r.g (madeR x.r.g x.codes) x.g (idM x.r.g) fl hcf fg fm
 have hd := fun (h : (behR x.r.sp x.g (idM x.r.g)).2 = true) => beh_dang h
 generalize behR x.r.sp x.g (idM x.r.g) = P at *
 generalize madeR x.r.g x.codes = c at *
 generalize pruR thrT x.r.sp.ru c = R at *
 have hawake : ∀ tok nt, DCall Tryz.prog 11 [] tok nt (B true) tok nt := awake34_c
 refine sB Tryz.func10 Tryz.ntmps10 ?_
 intro hbox htok
 simp only at hbox htok
 apply AL.start
 try (simp)
 repeat (refine sR ?_; simp)
 refine Stop.of_d (awake34_c _ _) ?_
 simp
 try (simp)
 repeat (refine sR ?_; simp)
 refine sC ?_
 simp
 try (simp)
 repeat (refine sR ?_; simp)
 refine Stop.of_d (hsc _ _) ?_
 simp
 try (simp)
 repeat (refine sR ?_; simp)
 refine Stop.of_d (hb _ _) ?_
 simp
 try (simp)
 repeat (refine sR ?_; simp)
 by_cases c12 : x.codes.length ≤ 12
 ·cases hP : P.2
  ·try (simp [c12, hP])
   repeat (refine sR ?_; simp [c12, hP])
   refine sC ?_
   simp [c12, hP]
   try (simp)
   repeat (refine sR ?_; simp)
   refine sT ?_
   try simp only [AU]
   refine ⟨by simp, sF hbox htok (fun _ h => h) (Nat.le_refl _) ?_⟩
   simp [packA]
  ·by_cases e2 : x.r.g.edges.length ≤ 2
   ·have e2' : ¬ (2 : Int) < x.r.g.edges.length := by omega
    have e2g : x.r.sp.ru.lg.edges.length = x.r.g.edges.length := rfl
    obtain ⟨l1, l2, l3, l4⟩ := hlaw (hd hP)
    have hmk := hmk c12
    have s2 := satisfies_c x.r.g R.1 x.g (idM x.r.g) fl l2 fg fm
    have l3' : satR x.r.g R.1 x.g (idM x.r.g) = (c.hol x.g (idM x.r.g), 0) := l3
    have l4' : satR x.r.g c x.g (idM x.r.g) = (c.hol x.g (idM x.r.g), 0) := l4
    rw [l3'] at s2
    rw [l4'] at s1
    generalize c.hol x.g (idM x.r.g) = v at *
    try (simp [c12, hP, e2', e2g])
    repeat (refine sR ?_; simp [c12, hP, e2', e2g])
    refine Stop.of_d (hinj _ _) ?_
    simp
    try (simp)
    repeat (refine sR ?_; simp)
    refine sC ?_
    simp
    try (simp)
    repeat (refine sR ?_; simp)
    refine Stop.of_d (hmk _ _) ?_
    simp
    try (simp)
    repeat (refine sR ?_; simp)
    refine Stop.of_d (three34_c _ _) ?_
    simp
    try (simp)
    repeat (refine sR ?_; simp)
    refine Stop.of_d (hpr _ _) ?_
    simp
    try (simp)
    repeat (refine sR ?_; simp)
    refine Stop.of_d (s1 _ _) ?_
    simp
    try (simp)
    repeat (refine sR ?_; simp)
    refine Stop.of_d (s2 _ _) ?_
    simp
    try (simp [l1])
    repeat (refine sR ?_; simp [l1])
    refine sT ?_
    try simp only [AU]
    refine ⟨by simp, sF hbox htok (fun _ h => h) (Nat.le_refl _) ?_⟩
    simp [packA]
   ·have e2' : (2 : Int) < x.r.g.edges.length := by omega
    have e2g : x.r.sp.ru.lg.edges.length = x.r.g.edges.length := rfl
    try (simp [c12, hP, e2', e2g])
    repeat (refine sR ?_; simp [c12, hP, e2', e2g])
    refine sC ?_
    simp
    try (simp)
    repeat (refine sR ?_; simp)
    refine sT ?_
    try simp only [AU]
    refine ⟨by simp, sF hbox htok (fun _ h => h) (Nat.le_refl _) ?_⟩
    simp [packA]
 ·try (simp [c12])
  repeat (refine sR ?_; simp [c12])
  refine sC ?_
  simp [c12]
  try (simp)
  repeat (refine sR ?_; simp)
  refine sT ?_
  try simp only [AU]
  refine ⟨by simp, sF hbox htok (fun _ h => h) (Nat.le_refl _) ?_⟩
  simp [packA]
end Go.AM
