/-
  Parts of the proof, as merged from many texts: a machine over data, what the functions compute, plain laws.
-/
import Derived.Test.YtfgcpmeadeehhaaGreatPTR9
import Derived.WalkKit
import Derived.ProofKit
import Derived.OpenShut
import Derived.ChangeStays
import Derived.SizedLaws
set_option linter.unusedSimpArgs false
set_option linter.unusedVariables false
namespace Go.AM
open Go Go.Proofs
def leafB (t : Ty) (k : Int) : Bool := !anyB (fun n => n.par == k) t.nodes
theorem leaf1_c (x : NT) (y : Int) (box : Nat → Option (List (List AV))) (nb k : Nat) (tok : Nat → Bool) (nt : Nat) (h1 : box k = some [[I y]]) :
    ACalls Tryz.prog 171 [x.av, .ptr k 0 0] ⟨box, nb, tok, nt⟩ fun v m => v = B (x.par == y) ∧ m = ⟨box, nb, tok, nt⟩ := by
  refine sB Tryz.func171 Tryz.ntmps171 ?_
  intro hbox htok
  simp only at hbox htok
  apply AL.start
  have k1n := key_lt hbox h1
  try (simp [lb_out k1n, h1])
  repeat (refine sR ?_; simp [lb_out k1n, h1])
  refine sT ?_
  try simp only [AU]
  refine ⟨by simp, sF hbox htok (fun _ h => h) (Nat.le_refl _) ?_⟩
  simp [packA]
theorem leaf_c (t : Ty) (ht : t.nodes.length ≤ 1000000) (k : Int) (tok : Nat → Bool) (nt : Nat) : DCall Tryz.prog 107 [t.av, I k] tok nt (B (leafB t k)) tok nt := by
  intro box nb
  obtain ⟨p, hpp⟩ : ∃ p : NT → Bool, (fun n => n.par == k) = p := ⟨_, rfl⟩
  have h2 := fun y box nb q hbk => leaf1_c y k box nb q tok nt hbk
  have hpy : ∀ y : NT, (y.par == k) = p y := fun y => by rw [← hpp]
  simp only [hpy] at h2
  unfold leafB
  rw [hpp]
  refine sB Tryz.func107 Tryz.ntmps107 ?_
  intro hbox htok
  simp only at hbox htok
  apply AL.start
  try (simp)
  repeat (refine sR ?_; simp)
  refine Stop.of_b (containsFuncN_c t.nodes 171 [.ptr (nb + 3) 0 0] p ht _ _ _ _ (fun c hc => by rw [List.mem_singleton.1 hc]; simp [lb_at]) (fun y hy box' nb' he => h2 y box' nb' _ (he _ _ (by simp [lb_at])))) ?_
  simp
  try (simp)
  repeat (refine sR ?_; simp)
  refine sT ?_
  try simp only [AU]
  refine ⟨by simp, sF hbox htok (fun _ h => h) (Nat.le_refl _) ?_⟩
  simp [packA]
def allP {α : Type} (p : α → Bool) (l : List α) : Bool := l.all p
theorem all_no {α : Type} {p : α → Bool} {l : List α} {i : Nat} (h : i < l.length) (hp : p l[i] = false) : allP p l = false := by
  unfold allP
  rw [← Bool.not_eq_true, List.all_eq_true]
  intro h2
  have := h2 _ (List.getElem_mem h)
  rw [hp] at this
  cases this
theorem all_more {α : Type} {p : α → Bool} {l : List α} {i : Nat} (h : i < l.length) (h1 : allP p (l.take i) = true) (hp : p l[i] = true) : allP p (l.take (i + 1)) = true := by
  unfold allP at *
  rw [List.take_succ_eq_append_getElem h, List.all_append, h1]
  simp [hp]
def lvN (t : Ty) (n : Int) : Bool := if (t.nodes.length : Int) ≤ n then false else leafB t n
def lvE (t : Ty) (g : Gr) (e : E) : Bool := fitB t e.ty (g.nodes.getD e.fr.toNat 0) (g.nodes.getD e.to.toNat 0)
def lvsB (t : Ty) (g : Gr) : Bool := if allP (lvN t) g.nodes = true then allP (lvE t g) g.edges else false
theorem leaves1_c (t : Ty) (ht : t.Fit) (g : Gr) (e : E) (h0 : 0 ≤ e.fr ∧ e.fr < g.nodes.length) (h2 : 0 ≤ e.to ∧ e.to < g.nodes.length) (box : Nat → Option (List (List AV))) (nb k1 k2 : Nat) (tok : Nat → Bool) (nt : Nat) (h1 : box k1 = some [[.d (nts t.nodes), .d (ets t.edges)]]) (h3 : box k2 = some [[.d (ints g.nodes), .d (AM.edges g.edges)]]) :
    ACalls Tryz.prog 172 [.agg [I e.ty, I e.fr, I e.to], .ptr k1 0 0, .ptr k2 0 0] ⟨box, nb, tok, nt⟩ fun v m => v = B (!lvE t g e) ∧ m = ⟨box, nb, tok, nt⟩ := by
  obtain ⟨ty, fr, to'⟩ := e
  simp only at h0 h2
  obtain ⟨a, rfl⟩ := Int.eq_ofNat_of_zero_le h0.1
  obtain ⟨b, rfl⟩ := Int.eq_ofNat_of_zero_le h2.1
  have ha : a < g.nodes.length := by omega
  have hb : b < g.nodes.length := by omega
  have hc := fits_c4 t ht ty g.nodes[a] g.nodes[b]
  have hL : lvE t g ⟨ty, a, b⟩ = fitB t ty g.nodes[a] g.nodes[b] := by simp [lvE, ha, hb]
  rw [hL]
  generalize fitB t ty g.nodes[a] g.nodes[b] = R at *
  refine sB Tryz.func172 Tryz.ntmps172 ?_
  intro hbox htok
  simp only at hbox htok
  apply AL.start
  have k1n := key_lt hbox h1
  have k2n := key_lt hbox h3
  try (simp [lb_out k1n, lb_out k2n, h1, h3, ha, hb])
  repeat (refine sR ?_; simp [lb_out k1n, lb_out k2n, h1, h3, ha, hb])
  refine Stop.of_d (hc _ _) ?_
  simp
  try (simp)
  repeat (refine sR ?_; simp)
  refine sT ?_
  try simp only [AU]
  refine ⟨by simp, sF hbox htok (fun _ h => h) (Nat.le_refl _) ?_⟩
  simp [packA]
def stLv (t : Ty) (g : Gr) (nb : Nat) (box : Nat → Option (List (List AV))) (tok : Nat → Bool) (nt : Nat) (i : Nat) : AState :=
  ⟨tl [(10, I i), (9, I g.nodes.length), (8, .d (ints g.nodes)), (3, .ptr (nb + 3) 0 0), (2, .ptr (nb + 2) 0 0)], lb nb box [(3, [[.d (ints g.nodes), .d (AM.edges g.edges)]]), (2, [[.d (nts t.nodes), .d (ets t.edges)]])], tok, nt⟩
theorem leaves_c (t : Ty) (ht : t.Fit) (g : Gr) (hg : g.Fit) (hv : ∀ e ∈ g.edges, 0 ≤ e.fr ∧ e.fr < g.nodes.length ∧ 0 ≤ e.to ∧ e.to < g.nodes.length) (tok : Nat → Bool) (nt : Nat) : DCall Tryz.prog 108 [t.av, g.av] tok nt (B (lvsB t g)) tok nt := by
  intro box nb
  have hgn := hg.n
  have hge := hg.e
  have htn := ht.n
  obtain ⟨N, hN⟩ : ∃ N, lvsB t g = N := ⟨_, rfl⟩
  rw [hN]
  unfold lvsB at hN
  refine sB Tryz.func108 Tryz.ntmps108 ?_
  intro hbox htok
  simp only at hbox htok
  apply AL.start
  try (simp)
  repeat (refine sR ?_; simp)
  refine sN ?_
  refine AL.loopT (stLv t g nb box tok nt) (fun i => i ≤ g.nodes.length ∧ allP (lvN t) (g.nodes.take i) = true) (fun i => g.nodes.length - i) 0 ⟨Nat.zero_le _, by simp [allP]⟩ (Weaks.mk (Nat.le_refl _) rfl (by simp [ToL, lk, lb_at]) (by simp [BoxL, lk])) ?_
  rintro i S' ⟨hi, hok⟩ hS
  simp only [stLv] at hS
  subst hS
  have hw := sW (i := i) (by omega)
  try (simp)
  repeat (refine sR ?_; simp)
  refine sC ?_
  simp
  refine ⟨fun hlt => ?_, fun hge => ?_⟩
  · have hno := fun h => all_no (p := lvN t) hlt h
    have hyes := fun h => all_more (p := lvN t) hlt hok h
    have hl : lvN t g.nodes[i] = if (t.nodes.length : Int) ≤ g.nodes[i] then false else leafB t g.nodes[i] := rfl
    have hc := leaf_c t (by omega) g.nodes[i]
    by_cases e1 : (t.nodes.length : Int) ≤ g.nodes[i]
    · rw [if_pos e1] at hl
      rw [hno hl, if_neg (by simp)] at hN
      try (simp [hlt, e1])
      repeat (refine sR ?_; simp [hlt, e1])
      refine sC ?_
      simp [e1]
      try (simp)
      repeat (refine sR ?_; simp)
      refine sT ?_
      try simp only [AU]
      refine ⟨by simp, sF hbox htok (fun _ h => h) (Nat.le_refl _) ?_⟩
      simp [packA, ← hN]
    · rw [if_neg e1] at hl
      try (simp [hlt, e1])
      repeat (refine sR ?_; simp [hlt, e1])
      refine Stop.of_d (hc _ _) ?_
      simp
      cases e2 : leafB t g.nodes[i]
      · rw [e2] at hl
        rw [hno hl, if_neg (by simp)] at hN
        try (simp)
        repeat (refine sR ?_; simp)
        refine sC ?_
        simp
        try (simp)
        repeat (refine sR ?_; simp)
        refine sT ?_
        try simp only [AU]
        refine ⟨by simp, sF hbox htok (fun _ h => h) (Nat.le_refl _) ?_⟩
        simp [packA, ← hN]
      · rw [e2] at hl
        try (simp)
        repeat (refine sR ?_; simp)
        refine sC ?_
        simp
        try (simp [hw])
        repeat (refine sR ?_; simp [hw])
        refine sE ?_
        exact ⟨i + 1, ⟨hlt, hyes hl⟩, by omega, Weaks.mk (Nat.le_refl _) rfl (by simp [ToL, lk, lb_at]) (by simp [BoxL, lk])⟩
  · refine sX ?_
    simp only [AU, ↓reduceIte]
    have : i = g.nodes.length := by omega
    subst this
    rw [List.take_length] at hok
    rw [if_pos hok] at hN
    obtain ⟨p, hpp⟩ : ∃ p : E → Bool, (fun e => !lvE t g e) = p := ⟨_, rfl⟩
    have h2 := fun y (hy : y ∈ g.edges) box nb k1 k2 hk1 hk2 => leaves1_c t ht g y ⟨(hv y hy).1, (hv y hy).2.1⟩ ⟨(hv y hy).2.2.1, (hv y hy).2.2.2⟩ box nb k1 k2 tok nt hk1 hk2
    have hpy : ∀ y : E, (!lvE t g y) = p y := fun y => by rw [← hpp]
    simp only [hpy] at h2
    have hN2 : (!anyB p g.edges) = N := by
      rw [← hN, ← hpp, allP, anyB, List.any_eq_not_all_not, Bool.not_not]
      simp
    try (simp)
    repeat (refine sR ?_; simp)
    have hcap : ∀ c ∈ [AV.ptr (nb + 2) 0 0, AV.ptr (nb + 3) 0 0], OkIn (fun k => (lb nb box [(3, [[.d (ints g.nodes), .d (AM.edges g.edges)]]), (2, [[.d (nts t.nodes), .d (ets t.edges)]])]) k ≠ none) (fun _ => True) c := by
      intro c hc
      simp only [List.mem_cons, List.not_mem_nil, or_false] at hc
      rcases hc with h | h
      · rw [h]; simp [lb_at]
      · rw [h]; simp [lb_at]
    refine Stop.of_b (containsFuncE_c g.edges 172 [.ptr (nb + 2) 0 0, .ptr (nb + 3) 0 0] p hg.e _ _ _ _ hcap (fun y hy box' nb' he => h2 y hy box' nb' _ _ (he _ _ (by simp [lb_at])) (he _ _ (by simp [lb_at])))) ?_
    simp
    try (simp)
    repeat (refine sR ?_; simp)
    refine sT ?_
    try simp only [AU]
    refine ⟨by simp, sF hbox htok (fun _ h => h) (Nat.le_refl _) ?_⟩
    simp [packA, ← hN2]
end Go.AM
namespace Go.AM
open Go Go.Proofs
def tpA (t : Ty) (i : Nat) : Int := if (t.nd i).abs = true then 0 else if leafB t i = true then 0 else 13
def tpB (t : Ty) (r : Ru) : Int :=
  if firstE (tpA t) t.nodes.length ≠ 0 then 13 else if lvsB t r.lg = false then 13 else if lvsB t r.rg = false then 13 else 0
def tpdE (t : Ty) (r : Ru) : Int := if tyE t ≠ 0 then tyE t else if strR r ≠ 0 then strR r else tpB t r
theorem strR_valid {r : Ru} (h : strR r = 0) : validG r.lg = 0 ∧ validG r.rg = 0 := (strR_zero h).2
def stTp (t : Ty) (r : Ru) (nb : Nat) (box : Nat → Option (List (List AV))) (tok : Nat → Bool) (nt : Nat) (i : Nat) : AState :=
  ⟨tl [(26, I i), (25, I t.nodes.length), (24, .d (nts t.nodes)), (3, .ptr (nb + 3) 0 0), (2, .ptr (nb + 2) 0 0)], lb nb box [(3, [r.row]), (2, [[.d (nts t.nodes), .d (ets t.edges)]])], tok, nt⟩
theorem typed_c (t : Ty) (ht : t.Fit) (r : Ru) (hr : r.Fit) (tok : Nat → Bool) (nt : Nat) : DCall Tryz.prog 53 [t.av, r.av] tok nt (I (tpdE t r)) tok nt := by
  intro box nb
  have htn := ht.n
  have h1 := valid_c4 t ht ht.hM
  have h2 := structural_c r hr
  have hv := @strR_valid r
  obtain ⟨N, hN⟩ : ∃ N, tpdE t r = N := ⟨_, rfl⟩
  rw [hN]
  unfold tpdE at hN
  generalize tyE t = E at *
  generalize tyN t = Z at *
  generalize strR r = S at *
  refine sB Tryz.func53 Tryz.ntmps53 ?_
  intro hbox htok
  simp only at hbox htok
  apply AL.start
  try (simp)
  repeat (refine sR ?_; simp)
  refine Stop.of_d (h1 _ _) ?_
  simp
  try (simp)
  repeat (refine sR ?_; simp)
  by_cases e1 : E = 0
  · rw [if_neg (by simp [e1])] at hN
    refine sC ?_
    simp [e1]
    try (simp)
    repeat (refine sR ?_; simp)
    refine Stop.of_d (h2 _ _) ?_
    simp
    try (simp)
    repeat (refine sR ?_; simp)
    by_cases e2 : S = 0
    · rw [if_neg (by simp [e2])] at hN
      obtain ⟨v1, v2⟩ := hv e2
      have l1 := leaves_c t ht r.lg hr.lg (validG_edges v1)
      have l2 := leaves_c t ht r.rg hr.rg (validG_edges v2)
      unfold tpB at hN
      refine sC ?_
      simp [e2]
      try (simp)
      repeat (refine sR ?_; simp)
      refine sN ?_
      refine AL.loopT (stTp t r nb box tok nt) (fun i => i ≤ t.nodes.length ∧ firstE (tpA t) i = 0) (fun i => t.nodes.length - i) 0 ⟨Nat.zero_le _, rfl⟩ (Weaks.mk (Nat.le_refl _) rfl (by simp [ToL, lk, lb_at]) (by simp [BoxL, lk])) ?_
      rintro i S' ⟨hi, hok⟩ hS
      simp only [stTp] at hS
      subst hS
      have hw := sW (i := i) (by omega)
      try (simp)
      repeat (refine sR ?_; simp)
      refine sC ?_
      simp
      refine ⟨fun hlt => ?_, fun hge => ?_⟩
      · have hR : tpA t i ≠ 0 → firstE (tpA t) t.nodes.length = tpA t i := fun h0 => firstE_stop hok h0 _ hlt
        have hnx : tpA t i = 0 → firstE (tpA t) (i + 1) = 0 := fun h0 => by simp only [firstE, hok, h0, ↓reduceIte]
        have hd : tpA t i = if t.nodes[i].abs = true then 0 else if leafB t i = true then 0 else 13 := by rw [tpA, nd_at hlt]
        have hc := leaf_c t (by omega) i
        cases e3 : t.nodes[i].abs
        · rw [e3, if_neg (by simp)] at hd
          try (simp [hlt, e3])
          repeat (refine sR ?_; simp [hlt, e3])
          refine Stop.of_d (hc _ _) ?_
          simp
          cases e4 : leafB t i
          · rw [e4, if_neg (by simp)] at hd
            rw [hR (by rw [hd]; decide), if_pos (by rw [hd]; decide)] at hN
            try (simp)
            repeat (refine sR ?_; simp)
            refine sC ?_
            simp
            try (simp)
            repeat (refine sR ?_; simp)
            refine sT ?_
            try simp only [AU]
            refine ⟨by simp, sF hbox htok (fun _ h => h) (Nat.le_refl _) ?_⟩
            simp [packA, ← hN]
          · rw [e4, if_pos rfl] at hd
            try (simp)
            repeat (refine sR ?_; simp)
            refine sC ?_
            simp
            try (simp [hw])
            repeat (refine sR ?_; simp [hw])
            refine sE ?_
            exact ⟨i + 1, ⟨hlt, hnx hd⟩, by omega, Weaks.mk (Nat.le_refl _) rfl (by simp [ToL, lk, lb_at]) (by simp [BoxL, lk])⟩
        · rw [e3, if_pos rfl] at hd
          try (simp [hlt, e3])
          repeat (refine sR ?_; simp [hlt, e3])
          refine sC ?_
          simp [e3]
          try (simp [hw])
          repeat (refine sR ?_; simp [hw])
          refine sE ?_
          exact ⟨i + 1, ⟨hlt, hnx hd⟩, by omega, Weaks.mk (Nat.le_refl _) rfl (by simp [ToL, lk, lb_at]) (by simp [BoxL, lk])⟩
      · refine sX ?_
        simp only [AU, ↓reduceIte]
        have : i = t.nodes.length := by omega
        subst this
        rw [if_neg (by simp [hok])] at hN
        try (simp)
        repeat (refine sR ?_; simp)
        refine Stop.of_d (l1 _ _) ?_
        simp
        cases e3 : lvsB t r.lg
        · rw [e3, if_pos rfl] at hN
          try (simp)
          repeat (refine sR ?_; simp)
          refine sC ?_
          simp
          try (simp)
          repeat (refine sR ?_; simp)
          refine sT ?_
          try simp only [AU]
          refine ⟨by simp, sF hbox htok (fun _ h => h) (Nat.le_refl _) ?_⟩
          simp [packA, ← hN]
        · rw [e3, if_neg (by simp)] at hN
          try (simp)
          repeat (refine sR ?_; simp)
          refine Stop.of_d (l2 _ _) ?_
          simp
          cases e4 : lvsB t r.rg
          · rw [e4, if_pos rfl] at hN
            try (simp)
            repeat (refine sR ?_; simp)
            refine sC ?_
            simp
            try (simp)
            repeat (refine sR ?_; simp)
            refine sT ?_
            try simp only [AU]
            refine ⟨by simp, sF hbox htok (fun _ h => h) (Nat.le_refl _) ?_⟩
            simp [packA, ← hN]
          · rw [e4, if_neg (by simp)] at hN
            try (simp)
            repeat (refine sR ?_; simp)
            refine sC ?_
            simp
            try (simp)
            repeat (refine sR ?_; simp)
            refine sT ?_
            try simp only [AU]
            refine ⟨by simp, sF hbox htok (fun _ h => h) (Nat.le_refl _) ?_⟩
            simp [packA, ← hN]
    · rw [if_pos e2] at hN
      have b2 : (S != 0) = true := by simp [e2]
      refine sC ?_
      simp [b2]
      try (simp)
      repeat (refine sR ?_; simp)
      refine sT ?_
      try simp only [AU]
      refine ⟨by simp, sF hbox htok (fun _ h => h) (Nat.le_refl _) ?_⟩
      simp [packA, ← hN]
  · rw [if_pos e1] at hN
    have b1 : (E != 0) = true := by simp [e1]
    refine sC ?_
    simp [b1]
    try (simp)
    repeat (refine sR ?_; simp)
    refine sT ?_
    try simp only [AU]
    refine ⟨by simp, sF hbox htok (fun _ h => h) (Nat.le_refl _) ?_⟩
    simp [packA, ← hN]
end Go.AM
namespace Go.AM
open Go
variable {P : Program}
theorem upon_exits {o : Oper} {a : Act} {next : Act → World → Prop} {Q Q' : Exit → Act → World → Prop} (h : ∀ e a w, e ≠ .normal → Q e a w → Q' e a w) (r : Result Next) (hh : o.upon P a next Q r) : o.upon P a next Q' r := by
  have hl : LetsOut Q → LetsOut Q' := fun ⟨a, w, h1⟩ => ⟨a, w, h _ _ _ (by simp) h1⟩
  cases r with
  | ok n w' =>
    cases n <;> simp only [Oper.upon] at hh ⊢ <;>
      first
        | exact hh
        | exact Calls.mono hh (fun e w'' he => by
            cases e
            · exact he
            · exact h _ _ _ (by simp) he
            · exact hl he)
  | halt x w' => cases x <;> simp only [Oper.upon] at hh ⊢ <;> first | exact h _ _ _ (by simp) hh | exact hh
theorem wpOp_exits {ops : Array Oper} {i : Nat} {K : Act → World → Prop} {Q Q' : Exit → Act → World → Prop} {a : Act} {w : World} (h : ∀ e a w, e ≠ .normal → Q e a w → Q' e a w) (hh : wpOp P ops Q i K a w) : wpOp P ops Q' i K a w := by
  have hl : LetsOut Q → LetsOut Q' := fun ⟨a, w, h1⟩ => ⟨a, w, h _ _ _ (by simp) h1⟩
  unfold wpOp at *
  split
  · rename_i ho
    simpa only [ho] using hh
  · rename_i o ho
    simp only [ho] at hh
    split
    · rename_i hw
      rw [if_pos hw] at hh
      exact hh.imp (upon_exits h _) fun ⟨h1, h2⟩ => ⟨h1, hl h2⟩
    · rename_i hw
      rw [if_neg hw] at hh
      exact hh
def tiedAll (L : Array Oper) (m : Nat) : Bool := (List.range m).all fun j => (List.range (m + 1)).any fun i => decide (j < i) && (match L[i]? with | some x => (direct x).contains j | none => false)
def downOk (L : Array Oper) : Bool := (List.range L.size).all fun i => match L[i]? with | some o => (direct o).all fun j => decide (j < i) | none => true
theorem tiedAll_spec {L : Array Oper} {m : Nat} (h : tiedAll L m = true) {j : Nat} (hj : j < m) : ∃ i x, j < i ∧ i ≤ m ∧ L[i]? = some x ∧ j ∈ direct x := by
  unfold tiedAll at h
  have h1 := List.all_eq_true.1 h j (by simpa using hj)
  obtain ⟨i, hi, h2⟩ := List.any_eq_true.1 h1
  simp only [Bool.and_eq_true, decide_eq_true_eq] at h2
  obtain ⟨h2, h3⟩ := h2
  split at h3
  · rename_i x hx
    exact ⟨i, x, h2, by simp at hi; omega, hx, by simpa using h3⟩
  · cases h3
theorem downOk_spec {L : Array Oper} (h : downOk L = true) {i : Nat} {o : Oper} (ho : L[i]? = some o) : ∀ j ∈ direct o, j < i := by
  unfold downOk at h
  have hi := (Array.getElem?_eq_some_iff.1 ho).1
  have h1 := List.all_eq_true.1 h i (by simpa using hi)
  rw [ho] at h1
  intro j hj
  simpa using List.all_eq_true.1 h1 j hj
theorem ready_mem {L : Array Oper} {listed : Array Bool} {i : Nat} : i ∈ Region.ready .any L listed ↔ i < L.size ∧ listed.getD i true = false ∧ ∃ o, L[i]? = some o ∧ ∀ j ∈ direct o, listed.getD j false = true := by
  unfold Region.ready
  rw [List.mem_filter]
  simp only [List.mem_range, Bool.and_eq_true, Bool.not_eq_true']
  constructor
  · rintro ⟨h1, h2, h3⟩
    refine ⟨h1, h2, L[i], by simp [h1], ?_⟩
    simp only [h1, Array.getElem?_eq_getElem, Option.map_some, Option.getD_some, Array.all_eq_true'] at h3
    intro j hj
    unfold direct at hj
    obtain ⟨e, he, rfl⟩ := List.mem_map.1 hj
    obtain ⟨he1, he2⟩ := List.mem_filter.1 he
    have := h3 e (by simpa using he1)
    simpa [he2] using this
  · rintro ⟨h1, h2, o, h3, h4⟩
    refine ⟨h1, h2, ?_⟩
    rw [h3]
    simp only [Option.map_some, Option.getD_some, Array.all_eq_true']
    intro e he
    by_cases hb : Region.binds .any e = true
    · have := h4 e.on (by unfold direct; exact List.mem_map.2 ⟨e, List.mem_filter.2 ⟨by simpa using he, hb⟩, rfl⟩)
      simp [this]
    · simp [hb]
theorem getD_some {l : Array Bool} {i : Nat} {d v : Bool} (h : l[i]? = some v) : l.getD i d = v := by simp [Array.getD_eq_getD_getElem?, h]
def guardOk (ops : Array Oper) : Bool := ops.all fun o => match o.guard with | some (j, _) => decide (j < ops.size) | none => true
theorem of_getD {l : Array Bool} {i : Nat} (h : l.getD i false = true) : l[i]? = some true := by
  rw [Array.getD_eq_getD_getElem?] at h
  cases e : l[i]? with
  | none => rw [e] at h; cases h
  | some v => rw [e] at h; simp at h; rw [h]
theorem wpAny_split {ops : Array Oper} {o : Oper} {Q Qm : Exit → Act → World → Prop} (hdown : downOk (ops.push o) = true) (htied : tiedAll (ops.push o) ops.size = true) (hgo : guardOk ops = true) (hg : o.guard = none)
    (hq : ∀ e a w, e ≠ .normal → Qm e a w → Q e a w) (hn : ∀ a w, Qm .normal a w → o.wp P a w (Q .normal) Q ∨ (o.asks P a w ∧ LetsOut Q)) :
    ∀ (fuel : Nat) (listed l' : Array Bool), listed.size = ops.size + 1 → l'.size = ops.size → (∀ i, i < ops.size → l'[i]? = listed[i]?) → listed[ops.size]? = some false →
      (∀ i x, (ops.push o)[i]? = some x → listed.getD i false = true → ∀ j ∈ direct x, listed.getD j false = true) →
      ∀ a w, wpAny P .any ops Qm fuel l' a w → wpAny P .any (ops.push o) Q (fuel + 1) listed a w := by
  have hsL : (ops.push o).size = ops.size + 1 := Array.size_push _
  have hat : ∀ i, i < ops.size → (ops.push o)[i]? = ops[i]? := fun i hi => by rw [Array.getElem?_push, if_neg (by omega)]
  have hlast : (ops.push o)[ops.size]? = some o := by rw [Array.getElem?_push, if_pos rfl]
  have fin : ∀ (listed : Array Bool), listed.size = ops.size + 1 → (∀ i, i < ops.size → listed[i]? = some true) → listed[ops.size]? = some false → ∀ a w, Qm .normal a w → ∀ n, wpAny P .any (ops.push o) Q (n + 1) listed a w := by
    intro listed hsz hall hls a w hQ n
    have hm : ops.size ∈ Region.ready .any (ops.push o) listed := ready_mem.2 ⟨by omega, getD_some hls, o, hlast, fun j hj => getD_some (hall j (downOk_spec hdown hlast j hj))⟩
    refine ⟨fun h0 => absurd hm (by rw [h0]; simp), fun i hi => ?_⟩
    have him : i = ops.size := by
      obtain ⟨h1, h2, _⟩ := ready_mem.1 hi
      rcases Nat.lt_or_ge i ops.size with h | h
      · rw [getD_some (hall i h)] at h2; cases h2
      · omega
    subst him
    have hall2 : Region.ready .any (ops.push o) (listed.setIfInBounds ops.size true) = [] := by
      rw [List.eq_nil_iff_forall_not_mem]
      intro i hi
      obtain ⟨h1, h2, _⟩ := ready_mem.1 hi
      have : (listed.setIfInBounds ops.size true)[i]? = some true := by
        rw [Array.getElem?_setIfInBounds]
        by_cases e : ops.size = i
        · rw [if_pos e, if_pos (by omega)]
        · rw [if_neg e]; exact hall i (by omega)
      rw [getD_some this] at h2
      cases h2
    have hK : ∀ a w, Q .normal a w → wpAny P .any (ops.push o) Q n (listed.setIfInBounds ops.size true) a w := by
      intro a w hq
      cases n with
      | zero => exact ⟨hall2, hq⟩
      | succ n => exact ⟨fun _ => hq, fun i hi => by rw [hall2] at hi; cases hi⟩
    unfold wpOp
    rw [hlast]
    simp only
    rw [if_pos (by simp [Region.wanted, hg])]
    exact (hn a w hQ).imp (Oper.wp_mono hK) id
  intro fuel
  induction fuel with
  | zero =>
    intro listed l' hsz hsz' hll hls hcl a w h
    obtain ⟨h1, h2⟩ := h
    refine fin listed hsz ?_ hls a w h2 0
    have hC : ∀ n i, i < n → i < ops.size → listed[i]? = some true := by
      intro n
      induction n with
      | zero => intro i hi; omega
      | succ n ihn =>
        intro i hi him
        cases e : listed[i]? with
        | none => rw [Array.getElem?_eq_none_iff] at e; omega
        | some v =>
          cases v with
          | true => rfl
          | false =>
            exfalso
            have : i ∈ Region.ready .any ops l' := ready_mem.2 ⟨him, getD_some ((hll i him).trans e), ops[i], by simp [him], fun j hj => by
              have hji := downOk_spec hdown (by rw [hat i him]; simp [him]) j hj
              exact getD_some ((hll j (by omega)).trans (ihn j (by omega) (by omega)))⟩
            rw [h1] at this
            cases this
    exact fun i hi => hC (i + 1) i (Nat.lt_succ_self _) hi
  | succ k ih =>
    intro listed l' hsz hsz' hll hls hcl a w h
    obtain ⟨h1, h2⟩ := h
    have hval : ∀ i, i < ops.size → listed[i]? = some true ∨ listed[i]? = some false := fun i hi => by
      cases e : listed[i]? with
      | none => rw [Array.getElem?_eq_none_iff] at e; omega
      | some v => cases v <;> simp
    have hrd : ∀ i, i < ops.size → (i ∈ Region.ready .any (ops.push o) listed ↔ i ∈ Region.ready .any ops l') := by
      intro i hi
      have hd : ∀ x, ops[i]? = some x → ((∀ j ∈ direct x, listed.getD j false = true) ↔ ∀ j ∈ direct x, l'.getD j false = true) := fun x hx => by
        have hj := downOk_spec hdown ((hat i hi).trans hx)
        constructor
        · exact fun h j hj' => getD_some ((hll j (by have := hj j hj'; omega)).trans (of_getD (h j hj')))
        · exact fun h j hj' => getD_some ((hll j (by have := hj j hj'; omega)).symm.trans (of_getD (h j hj')))
      rw [ready_mem, ready_mem, hat i hi]
      have hg2 : listed.getD i true = l'.getD i true := by rw [Array.getD_eq_getD_getElem?, Array.getD_eq_getD_getElem?, hll i hi]
      constructor
      · rintro ⟨_, g2, x, g3, g4⟩
        exact ⟨hi, hg2 ▸ g2, x, g3, (hd x g3).1 g4⟩
      · rintro ⟨_, g2, x, g3, g4⟩
        exact ⟨by omega, hg2.symm ▸ g2, x, g3, (hd x g3).2 g4⟩
    by_cases hall : ∀ i, i < ops.size → listed[i]? = some true
    · refine fin listed hsz hall hls a w (h1 ?_) (k + 1)
      rw [List.eq_nil_iff_forall_not_mem]
      intro i hi
      obtain ⟨g1, g2, _⟩ := ready_mem.1 hi
      rw [getD_some ((hll i g1).trans (hall i g1))] at g2
      cases g2
    · have hnm : ops.size ∉ Region.ready .any (ops.push o) listed := by
        intro hm
        refine hall ?_
        obtain ⟨_, _, x, hx, hx2⟩ := ready_mem.1 hm
        rw [hlast] at hx
        cases hx
        have hD : ∀ n j, ops.size - j ≤ n → j < ops.size → listed[j]? = some true := by
          intro n
          induction n with
          | zero => intro j h; omega
          | succ n ihn =>
            intro j hj hjm
            obtain ⟨i, x, hji, him, hx, hjx⟩ := tiedAll_spec htied hjm
            by_cases e : i = ops.size
            · subst e
              rw [hlast] at hx
              cases hx
              exact of_getD (hx2 j hjx)
            · exact of_getD (hcl i x hx (getD_some (ihn i (by omega) (by omega))) j hjx)
        exact fun i hi => hD _ i (Nat.le_refl _) hi
      refine ⟨fun h0 => ?_, fun i hi => ?_⟩
      · exfalso
        refine hall ?_
        have hC : ∀ n i, i < n → i < ops.size → listed[i]? = some true := by
          intro n
          induction n with
          | zero => intro i hi; omega
          | succ n ihn =>
            intro i hi him
            rcases hval i him with e | e
            · exact e
            · exfalso
              have : i ∈ Region.ready .any (ops.push o) listed := ready_mem.2 ⟨by omega, getD_some e, ops[i], by rw [hat i him]; simp [him], fun j hj => by
                have hji := downOk_spec hdown (by rw [hat i him]; simp [him]) j hj
                exact getD_some (ihn j (by omega) (by omega))⟩
              rw [h0] at this
              cases this
        exact fun i hi => hC (i + 1) i (Nat.lt_succ_self _) hi
      · have him : i < ops.size := by
          obtain ⟨g1, _⟩ := ready_mem.1 hi
          rcases Nat.lt_or_ge i ops.size with h | h
          · exact h
          · exfalso
            have : i = ops.size := by omega
            subst this
            exact hnm hi
        have h3 := wpOp_exits hq (h2 i ((hrd i him).1 hi))
        obtain ⟨_, g2, x, g3, g4⟩ := ready_mem.1 hi
        have hx : ops[i]? = some x := (hat i him).symm.trans g3
        have hIH : ∀ a w, wpAny P .any ops Qm k (l'.setIfInBounds i true) a w → wpAny P .any (ops.push o) Q (k + 1) (listed.setIfInBounds i true) a w := by
          intro a w hh
          refine ih _ _ (by simpa using hsz) (by simpa using hsz') ?_ ?_ ?_ a w hh
          · intro j hj
            rw [Array.getElem?_setIfInBounds, Array.getElem?_setIfInBounds]
            by_cases e : i = j
            · rw [if_pos e, if_pos e, if_pos (by omega), if_pos (by omega)]
            · rw [if_neg e, if_neg e]; exact hll j hj
          · rw [Array.getElem?_setIfInBounds, if_neg (by omega)]; exact hls
          · intro i2 y hy hl2 j hj
            have hset : ∀ q, (listed.setIfInBounds i true)[q]? = some true ↔ (q = i ∨ listed[q]? = some true) := by
              intro q
              rw [Array.getElem?_setIfInBounds]
              by_cases e : i = q
              · rw [if_pos e, if_pos (by omega)]; simp [e]
              · rw [if_neg e]
                constructor
                · exact .inr
                · rintro (h | h)
                  · exact absurd h.symm e
                  · exact h
            refine getD_some ((hset j).2 ?_)
            rcases (hset i2).1 (of_getD hl2) with e | e
            · subst e
              rw [g3] at hy
              cases hy
              exact .inr (of_getD (g4 j hj))
            · exact .inr (of_getD (hcl i2 y hy (getD_some e) j hj))
        unfold wpOp at h3 ⊢
        rw [hx] at h3
        rw [g3]
        simp only at h3 ⊢
        have hwan : Region.wanted x (yielded (ops.push o) a.tmps) = Region.wanted x (yielded ops a.tmps) := by
          unfold Region.wanted
          cases hgx : x.guard with
          | none => rfl
          | some jw =>
            obtain ⟨j, want⟩ := jw
            have hj : j < ops.size := by
              unfold guardOk at hgo
              have := Array.all_eq_true'.1 hgo x (Array.mem_of_getElem? hx)
              rw [hgx] at this
              simpa using this
            simp only [yielded, hat j hj]
        rw [hwan]
        split
        · rename_i hw
          rw [if_pos hw] at h3
          exact h3.imp (Oper.wp_mono hIH) id
        · rename_i hw
          rw [if_neg hw] at h3
          exact hIH _ _ h3
def splitOk (n : Nat) (ops : Array Oper) (o : Oper) : Bool := regionOk n ops true && (regionOk n #[o] false && (downOk (ops.push o) && (tiedAll (ops.push o) ops.size && (guardOk ops && o.guard.isNone))))
theorem AL.split {cx : Cx} {nt0 : Nat} {K : Exit → AState → Prop} {r : List CI} {S : AState} {id : Nat} {L ops : Array Oper} {o : Oper} (hL : L = ops.push o) (hf : P.follows .mixedOrders = true) (hnb : cx.base + cx.n ≤ cx.nb) (hok : splitOk cx.n ops o = true)
    (h : FReg P cx ops true (fun S' => FReg P cx #[o] false (AL P cx nt0 K r) S') S) : AL P cx nt0 K (.c (.region id L true) :: r) S := by
  subst hL
  unfold splitOk at hok
  simp only [Bool.and_eq_true, regionOk, Bool.or_eq_true, Bool.not_eq_true', Option.isNone_iff_eq_none] at hok
  obtain ⟨⟨⟨hal, hdst⟩, hreg⟩, ⟨⟨hal1, hdst1⟩, _⟩, hdown, htied, hgo, hgn⟩ := hok
  have hreg' : regOk ops = true := by simpa using hreg
  have h := fReg_sound h
  simp only [AL]
  intro G0 w0 he hn G a w hr hl
  have hd := dstOk_spec hdst
  obtain ⟨b, hb, hr1, hp, hkeep⟩ := preB_sound hnb ops.toList S.box (S := S) hr (fun o ho d hod => hd o d (by simpa using ho) hod) (allocOk_nodup hal) h
  have hl1 : LeC cx G0 w0 G w { S with box := b } := ⟨hl.1, fun k hk hg => by
    rw [← hl.2 k hk hg]
    refine hkeep k fun hm => ?_
    obtain ⟨o, ho, he⟩ := List.mem_filterMap.1 hm
    split at he
    · rename_i T s h1 h2
      simp only [Option.some.injEq] at he
      subst he
      exact absurd hk (by simp)
    · cases he⟩
  simp only at hb
  obtain ⟨S', hrun, hK⟩ := hb
  refine wp_region_any hf ?_
  have hrd : RelS cx.n cx.nb G { S with box := b } a w.drew := hr1.drew
  have hld : LeC cx G0 w0 G w.drew { S with box := b } := hl1.step ⟨Le.drew, fun k _ hg => ⟨hg, rfl⟩⟩
  rw [Array.size_push]
  refine wpAny_split (Qm := fun e a' w' => match e with
    | .normal => o.wp P a' w' (fun a w => ∃ S' G', AL P cx nt0 K r S' ∧ RelS cx.n cx.nb G' S' a w ∧ LeC cx G0 w0 G' w S') (fun e a' w' => ∃ S' G', (match e with | .normal => AL P cx nt0 K r S' | e => AU P cx nt0 K r e S') ∧ RelS cx.n cx.nb G' S' a' w' ∧ LeC cx G0 w0 G' w' S') ∨ (o.asks P a' w' ∧ LetsOut (fun e a' w' => ∃ S' G', (match e with | .normal => AL P cx nt0 K r S' | e => AU P cx nt0 K r e S') ∧ RelS cx.n cx.nb G' S' a' w' ∧ LeC cx G0 w0 G' w' S'))
    | e => False) hdown htied hgo hgn (fun e a w hne hh => by cases e <;> first | exact absurd rfl hne | exact hh.elim) (fun a w hh => ?_) ops.size _ (Array.replicate ops.size false) (by simp) (by simp) (fun i hi => by simp [Array.getElem?_replicate, hi]; omega) (by simp [Array.getElem?_replicate]) ?_ a w.drew ?_
  · exact hh
  · intro i x hx hl2
    have := of_getD hl2
    rw [Array.getElem?_replicate] at this
    split at this
    · cases this
    · cases this
  · refine any_sound (n := cx.n) (nb := cx.nb) (base := cx.base) (Sf := S') (G0 := G) (w0 := w.drew) (b0 := b) hreg' hal hdst hnb (fun a' w' G' h1 h2 => ?_) ops.size (Array.replicate ops.size false) (List.range ops.size) { S with box := b } a w.drew G (by simp) ?_ (by simp) ?_ (IRun.of_all hrun) hrd ?_ (LeK.refl _ _ _ _)
    · have hl2 := hld.step h2
      have hK2 := fReg_sound hK
      obtain ⟨b2, hb2, hr2, hp2, hkeep2⟩ := preB_sound hnb (#[o] : Array Oper).toList S'.box (S := S') h1 (fun o ho d hod => dstOk_spec hdst1 o d (by simpa using ho) hod) (allocOk_nodup hal1) hK2
      have hl3 : LeC cx G0 w0 G' w' { S' with box := b2 } := ⟨hl2.1, fun k hk hg => by
        rw [← hl2.2 k hk hg]
        refine hkeep2 k fun hm => ?_
        obtain ⟨o, ho, he⟩ := List.mem_filterMap.1 hm
        split at he
        · rename_i T s h1 h2
          simp only [Option.some.injEq] at he
          subst he
          exact absurd hk (by simp)
        · cases he⟩
      simp only at hb2
      have hfin := aops_sound (cx := cx) (ops := #[o]) (Q := fun e a' w' => ∃ S' G', (match e with | .normal => AL P cx nt0 K r S' | e => AU P cx nt0 K r e S') ∧ RelS cx.n cx.nb G' S' a' w' ∧ LeC cx G0 w0 G' w' S') (K := AL P cx nt0 K r) (G0 := G0) (w0 := w0) (fun o d ho hod => dstOk_spec hdst1 o d ho hod) hnb hal1 (fun S' a' w' G' h1 h2 h3 => ⟨S', G', h1, h2, h3⟩) (#[o] : Array Oper).toList 0 { S' with box := b2 } a' w' G' (by simp) hp2 hr2 hl3 hb2
      rw [show (#[o] : Array Oper).toList.length = 1 from rfl, show List.range' 0 1 = [0] from rfl, wpOps_cons] at hfin
      unfold wpOp at hfin
      rw [show (#[o] : Array Oper)[0]? = some o from rfl] at hfin
      simp only at hfin
      rw [if_pos (by simp [Region.wanted, hgn])] at hfin
      exact hfin
    · rw [List.filter_eq_self.2]
      intro i hi
      simp at hi
      simp [Array.getD, hi]
    · intro i o ho hlst
      have hi := (Array.getElem?_eq_some_iff.1 ho).1
      simp [Array.getD, hi] at hlst
    · intro i _ o ho
      exact hp o (by simpa using Array.mem_of_getElem? ho)
theorem AL.splitL {cx : Cx} {nt0 : Nat} {K : Exit → AState → Prop} {r : List CI} {S : AState} {id : Nat} {L : List Oper} {o : Oper} (hl : L.getLast? = some o) (hL : L = L.dropLast ++ [o]) (hf : P.follows .mixedOrders = true) (hnb : cx.base + cx.n ≤ cx.nb) (hok : splitOk cx.n L.dropLast.toArray o = true)
    (h : FReg P cx L.dropLast.toArray true (fun S' => FReg P cx #[o] false (AL P cx nt0 K r) S') S) : AL P cx nt0 K (.c (.region id L.toArray true) :: r) S := by
  refine AL.split (ops := L.dropLast.toArray) (o := o) ?_ hf hnb hok h
  rw [List.push_toArray, ← hL]
end Go.AM
namespace Go.AM
open Go Go.Proofs
def addX (node kind other : Int) (out : Bool) : E := if out = true then ⟨kind, node, other⟩ else ⟨kind, other, node⟩
def addL (t : Ty) (g : Gr) (node kind : Int) (out : Bool) (other : Int) (nodes : List Int) : List Gr :=
  if fitB t kind (nodes.getD (addX node kind other out).fr.toNat 0) (nodes.getD (addX node kind other out).to.toNat 0) = true then [⟨nodes, g.edges ++ [addX node kind other out]⟩] else []
structure Ac3 where
  own : Own
  tok : Nat → Bool
  nt : Nat
def Ac3.add (x : Ac3) (b : Bool) : Ac3 := if b = true then ⟨.tok (x.nt + 2), upd (x.own.kill (upd (upd (upd x.tok x.nt true) x.nt false) (x.nt + 1) true)) (x.nt + 2) true, x.nt + 3⟩ else x
structure Ac3.Ok (x : Ac3) (tok : Nat → Bool) (nt : Nat) : Prop where
  adv : Adv tok nt .full x.tok x.nt x.own
  lt : ∀ t, tok t = true → t < nt
theorem Ac3.Ok.add {x : Ac3} {tok : Nat → Bool} {nt : Nat} (h : x.Ok tok nt) (b : Bool) : (x.add b).Ok tok nt := by
  unfold Ac3.add
  split
  · have had := Adv.fresh h.adv.live h.adv.lt
    exact ⟨h.adv.trans h.lt (had.trans h.adv.lt (Adv.app had.live had.lt)), h.lt⟩
  · exact h
theorem Ac3.Ok.tk {x : Ac3} {tok : Nat → Bool} {nt : Nat} (h : x.Ok tok nt) : TK tok nt x.tok x.nt [x.own] :=
  ⟨fun t ht => h.adv.keep t ht (by simp), h.lt, h.adv.le, fun o ho t e => by
    rw [List.mem_singleton] at ho
    subst ho
    have hl := h.adv.live
    rw [e] at hl
    refine ⟨hl, ?_, h.adv.lt t hl⟩
    rcases h.adv.new with e2 | ⟨s, e2, hs⟩
    · rw [e] at e2; cases e2
    · rw [e] at e2; cases e2; exact hs, List.pairwise_singleton _ _⟩
def addB (t : Ty) (node kind : Int) (out : Bool) (other : Int) (nodes : List Int) : Bool := fitB t kind (nodes.getD (addX node kind other out).fr.toNat 0) (nodes.getD (addX node kind other out).to.toNat 0)
abbrev Gr.cells (g : Gr) : List D := [ints g.nodes, AM.edges g.edges]
abbrev grs (l : List Gr) : D := .sl 2 (l.map Gr.cells)
theorem larger1_c (t : Ty) (ht : t.Fit) (g : Gr) (hg : g.Fit) (node kind : Int) (out : Bool) (other : Int) (nodes : List Int) (L : List Gr) (own : Own) (hn : 0 ≤ node ∧ node < nodes.length) (ho : 0 ≤ other ∧ other < nodes.length) (hL : L.length ≤ 1000000) (box : Nat → Option (List (List AV))) (nb k1 k2 k3 k4 k5 k6 : Nat) (tok : Nat → Bool) (nt : Nat) (hlive : own.liveP tok) (h1 : box k1 = some [[I node]]) (h2 : box k2 = some [[I kind]]) (h3 : box k3 = some [[B out]]) (h4 : box k4 = some [[.d (nts t.nodes), .d (ets t.edges)]]) (h5 : box k5 = some [[.osl 2 (L.map Gr.cells) own]]) (h6 : box k6 = some [[.d (ints g.nodes), .d (AM.edges g.edges)]]) :
    ACalls Tryz.prog 111 [I other, .d (ints nodes), .ptr k2 0 0, .ptr k1 0 0, .ptr k3 0 0, .ptr k4 0 0, .ptr k5 0 0, .ptr k6 0 0] ⟨box, nb, tok, nt⟩ fun v m => v = .tup [] ∧ m = ⟨upd box k5 (some [[.osl 2 ((L ++ addL t g node kind out other nodes).map Gr.cells) ((Ac3.mk own tok nt).add (addB t node kind out other nodes)).own]]), nb, ((Ac3.mk own tok nt).add (addB t node kind out other nodes)).tok, ((Ac3.mk own tok nt).add (addB t node kind out other nodes)).nt⟩ := by
  have hself : box = upd box k5 (some [[.osl 2 (L.map Gr.cells) own]]) := (upd_self box k5 _ h5).symm
  obtain ⟨a, rfl⟩ := Int.eq_ofNat_of_zero_le hn.1
  obtain ⟨b, rfl⟩ := Int.eq_ofNat_of_zero_le ho.1
  have ha : a < nodes.length := by omega
  have hb : b < nodes.length := by omega
  have f1 := fits_c4 t ht kind nodes[a] nodes[b]
  have f2 := fits_c4 t ht kind nodes[b] nodes[a]
  cases out
  · have hA : addL t g a kind false b nodes = if fitB t kind nodes[b] nodes[a] = true then [⟨nodes, g.edges ++ [⟨kind, b, a⟩]⟩] else [] := by simp [addL, addX, ha, hb]
    have hB : addB t a kind false b nodes = fitB t kind nodes[b] nodes[a] := by simp [addB, addX, ha, hb]
    rw [hA, hB]
    generalize fitB t kind nodes[b] nodes[a] = R at *
    refine sB Tryz.func111 Tryz.ntmps111 ?_
    intro hbox htok
    simp only at hbox htok
    apply AL.start
    have q1 := lb_out (key_lt hbox h1)
    have q2 := lb_out (key_lt hbox h2)
    have q3 := lb_out (key_lt hbox h3)
    have q4 := lb_out (key_lt hbox h4)
    have q5 := lb_out (key_lt hbox h5)
    have q6 := lb_out (key_lt hbox h6)
    try (simp [q1, q2, q3, q4, q5, q6, h1, h2, h3, h4, h5, h6])
    repeat (refine sR ?_; simp [q1, q2, q3, q4, q5, q6, h1, h2, h3, h4, h5, h6])
    refine sC ?_
    simp
    have hk1 := key_lt hbox h1
    refine sN ?_
    refine AL.region3 follows_Tryz (Nat.le_refl _) (by kernel_rfl) (Side.of (by simp)) [(Operand.tmp 3, Operand.tmp 19)] (by kernel_rfl) ?_
    simp [q1, q2, q3, q4, q5, q6, h1, h2, h3, h4, h5, h6, ha, hb, cls]
    refine ⟨by omega, ?_⟩
    try (simp [q1, q2, q3, q4, q5, q6, h1, h2, h3, h4, h5, h6, ha, hb])
    repeat (refine sR ?_; simp [q1, q2, q3, q4, q5, q6, h1, h2, h3, h4, h5, h6, ha, hb])
    refine Stop.of_d (f2 _ _) ?_
    simp
    cases R
    · refine sC ?_
      simp
      refine sE ?_
      refine ⟨.inl rfl, (Fin.own (vs := []) (av := .tup []) (by simp [resAs, resA]) hbox rfl (Nat.le_refl _) (by simp [packA])).mono fun v m hq => ⟨hq.1, ?_⟩⟩
      rw [hq.2]
      simp [← hself, Ac3.add]
    · have hk5 := key_lt hbox h5
      have hge := hg.e
      have had := Adv.fresh hlive htok
      refine sC ?_
      simp
      try (simp [q1, q2, q3, q4, q5, q6, h1, h2, h3, h4, h5, h6, ha, hb])
      repeat (refine sR ?_; simp [q1, q2, q3, q4, q5, q6, h1, h2, h3, h4, h5, h6, ha, hb])
      refine Stop.of_d (cloneE_c g.edges hg.e _ _) ?_
      simp [q5, h5, upd_lb_out hk5]
      refine ⟨⟨by omega, upd_same _ _ _⟩, ⟨by omega, had.live⟩, ?_⟩
      refine sE ?_
      refine ⟨.inl rfl, (Fin.gen (vs := []) (av := .tup []) (tok' := upd (own.kill (upd (upd (upd tok nt true) nt false) (nt + 1) true)) (nt + 2) true) (nt' := nt + 3) (by simp [resAs, resA]) ?_ (by omega) (Nat.le_refl _) (fun t h => ⟨h, .inl rfl⟩) ?_ (by simp [packA])).mono fun v m hq => ⟨hq.1, ?_⟩⟩
      · rw [← upd_lb_out hk5, hbox]
      · intro k' rows hk' hr
        by_cases e : k' = k5
        · subst e
          rw [upd_same] at hr
          cases hr
          exact .inr (by simp)
        · rw [upd_other _ _ e] at hr
          exact .inl hr
      · rw [hq.2]
        simp [Gr.cells, rE, AM.edges, Ac3.add]
  · have hA : addL t g a kind true b nodes = if fitB t kind nodes[a] nodes[b] = true then [⟨nodes, g.edges ++ [⟨kind, a, b⟩]⟩] else [] := by simp [addL, addX, ha, hb]
    have hB : addB t a kind true b nodes = fitB t kind nodes[a] nodes[b] := by simp [addB, addX, ha, hb]
    rw [hA, hB]
    generalize fitB t kind nodes[a] nodes[b] = R at *
    refine sB Tryz.func111 Tryz.ntmps111 ?_
    intro hbox htok
    simp only at hbox htok
    apply AL.start
    have q1 := lb_out (key_lt hbox h1)
    have q2 := lb_out (key_lt hbox h2)
    have q3 := lb_out (key_lt hbox h3)
    have q4 := lb_out (key_lt hbox h4)
    have q5 := lb_out (key_lt hbox h5)
    have q6 := lb_out (key_lt hbox h6)
    try (simp [q1, q2, q3, q4, q5, q6, h1, h2, h3, h4, h5, h6])
    repeat (refine sR ?_; simp [q1, q2, q3, q4, q5, q6, h1, h2, h3, h4, h5, h6])
    refine sC ?_
    simp
    try (simp [q1, q2, q3, q4, q5, q6, h1, h2, h3, h4, h5, h6, ha, hb])
    repeat (refine sR ?_; simp [q1, q2, q3, q4, q5, q6, h1, h2, h3, h4, h5, h6, ha, hb])
    refine Stop.of_d (f1 _ _) ?_
    simp
    cases R
    · refine sC ?_
      simp
      refine sE ?_
      refine ⟨.inl rfl, (Fin.own (vs := []) (av := .tup []) (by simp [resAs, resA]) hbox rfl (Nat.le_refl _) (by simp [packA])).mono fun v m hq => ⟨hq.1, ?_⟩⟩
      rw [hq.2]
      simp [← hself, Ac3.add]
    · have hk5 := key_lt hbox h5
      have hge := hg.e
      have had := Adv.fresh hlive htok
      refine sC ?_
      simp
      try (simp [q1, q2, q3, q4, q5, q6, h1, h2, h3, h4, h5, h6, ha, hb])
      repeat (refine sR ?_; simp [q1, q2, q3, q4, q5, q6, h1, h2, h3, h4, h5, h6, ha, hb])
      refine Stop.of_d (cloneE_c g.edges hg.e _ _) ?_
      simp [q5, h5, upd_lb_out hk5]
      refine ⟨⟨by omega, upd_same _ _ _⟩, ⟨by omega, had.live⟩, ?_⟩
      refine sE ?_
      refine ⟨.inl rfl, (Fin.gen (vs := []) (av := .tup []) (tok' := upd (own.kill (upd (upd (upd tok nt true) nt false) (nt + 1) true)) (nt + 2) true) (nt' := nt + 3) (by simp [resAs, resA]) ?_ (by omega) (Nat.le_refl _) (fun t h => ⟨h, .inl rfl⟩) ?_ (by simp [packA])).mono fun v m hq => ⟨hq.1, ?_⟩⟩
      · rw [← upd_lb_out hk5, hbox]
      · intro k' rows hk' hr
        by_cases e : k' = k5
        · subst e
          rw [upd_same] at hr
          cases hr
          exact .inr (by simp)
        · rw [upd_other _ _ e] at hr
          exact .inl hr
      · rw [hq.2]
        simp [Gr.cells, rE, AM.edges, Ac3.add]
end Go.AM
namespace Go.AM
open Go Go.Proofs
def flatN {α : Type} (f : Nat → List α) : Nat → List α
  | 0 => []
  | n + 1 => flatN f n ++ f n
theorem flatN_len {α : Type} {f : Nat → List α} (h : ∀ i, (f i).length ≤ 1) : ∀ n, (flatN f n).length ≤ n
  | 0 => Nat.le_refl _
  | n + 1 => by
    have := flatN_len h n
    have := h n
    simp only [flatN, List.length_append]
    omega
theorem addL_len (t : Ty) (g : Gr) (node kind : Int) (out : Bool) (other : Int) (nodes : List Int) : (addL t g node kind out other nodes).length ≤ 1 := by
  unfold addL
  split <;> simp
def lrA (t : Ty) (g : Gr) (node kind : Int) (out : Bool) (i : Nat) : List Gr := if (out || ((i : Int) != node)) = true then addL t g node kind out i g.nodes else []
def lrB (t : Ty) (g : Gr) (node kind : Int) (out : Bool) (k : Nat) : List Gr := if leafB t k = true then addL t g node kind out g.nodes.length (g.nodes ++ [(k : Int)]) else []
theorem lrA_len (t : Ty) (g : Gr) (node kind : Int) (out : Bool) (i : Nat) : (lrA t g node kind out i).length ≤ 1 := by
  unfold lrA
  split
  · exact addL_len _ _ _ _ _ _ _
  · simp
theorem lrB_len (t : Ty) (g : Gr) (node kind : Int) (out : Bool) (i : Nat) : (lrB t g node kind out i).length ≤ 1 := by
  unfold lrB
  split
  · exact addL_len _ _ _ _ _ _ _
  · simp
def lrgL (t : Ty) (g : Gr) (node kind : Int) (out : Bool) : List Gr := flatN (lrA t g node kind out) g.nodes.length ++ flatN (lrB t g node kind out) t.nodes.length
def Ac3.cl (x : Ac3) : Ac3 := ⟨x.own, upd x.tok x.nt true, x.nt + 1⟩
def Ac3.cl2 (x : Ac3) : Ac3 := ⟨x.own, upd (upd (upd x.tok x.nt true) x.nt false) (x.nt + 1) true, x.nt + 2⟩
theorem Ac3.Ok.cl {x : Ac3} {tok : Nat → Bool} {nt : Nat} (h : x.Ok tok nt) : x.cl.Ok tok nt := by
  refine ⟨h.adv.trans h.lt ⟨fun t ht _ => ?_, Nat.le_succ _, ?_, .inl rfl, fun t ht => ?_⟩, h.lt⟩
  · simp only [Ac3.cl, upd]; split; rfl; exact ht
  · have := h.adv.live
    show x.own.liveP (upd x.tok x.nt true)
    cases e : x.own with
    | full => trivial
    | tok s =>
      rw [e] at this
      simp only [Own.liveP, upd] at this ⊢
      split; rfl; exact this
  · simp only [Ac3.cl, upd] at ht ⊢
    split at ht
    · omega
    · have := h.adv.lt t ht; omega
theorem Ac3.Ok.cl2 {x : Ac3} {tok : Nat → Bool} {nt : Nat} (h : x.Ok tok nt) : x.cl2.Ok tok nt := ⟨h.adv.trans h.lt (Adv.fresh h.adv.live h.adv.lt), h.lt⟩
theorem Ac3.Ok.start {tok : Nat → Bool} {nt : Nat} (h : ∀ t, tok t = true → t < nt) : (Ac3.mk .full tok nt).Ok tok nt := ⟨Adv.refl trivial h, h⟩
def acA (t : Ty) (g : Gr) (node kind : Int) (out : Bool) (x : Ac3) : Nat → Ac3
  | 0 => x
  | i + 1 => if (out || ((i : Int) != node)) = true then (acA t g node kind out x i).cl.add (addB t node kind out i g.nodes) else acA t g node kind out x i
def acB (t : Ty) (g : Gr) (node kind : Int) (out : Bool) (x : Ac3) : Nat → Ac3
  | 0 => x
  | k + 1 => if leafB t k = true then (acB t g node kind out x k).cl2.add (addB t node kind out g.nodes.length (g.nodes ++ [(k : Int)])) else acB t g node kind out x k
theorem acA_ok {t : Ty} {g : Gr} {node kind : Int} {out : Bool} {x : Ac3} {tok : Nat → Bool} {nt : Nat} (h : x.Ok tok nt) : ∀ i, (acA t g node kind out x i).Ok tok nt
  | 0 => h
  | i + 1 => by
    unfold acA
    split
    · exact ((acA_ok h i).cl).add _
    · exact acA_ok h i
theorem acB_ok {t : Ty} {g : Gr} {node kind : Int} {out : Bool} {x : Ac3} {tok : Nat → Bool} {nt : Nat} (h : x.Ok tok nt) : ∀ i, (acB t g node kind out x i).Ok tok nt
  | 0 => h
  | i + 1 => by
    unfold acB
    split
    · exact ((acB_ok h i).cl2).add _
    · exact acB_ok h i
def lrgX (t : Ty) (g : Gr) (node kind : Int) (out : Bool) (x : Ac3) : Ac3 := acB t g node kind out (acA t g node kind out x g.nodes.length) t.nodes.length
abbrev lgBox (t : Ty) (g : Gr) (node kind : Int) (out : Bool) (L : List Gr) (own : Own) : List (Nat × List (List AV)) :=
  [(11, [[.osl 2 (L.map Gr.cells) own]]), (9, [[B out]]), (8, [[I kind]]), (7, [[I node]]), (6, [[.d (ints g.nodes), .d (AM.edges g.edges)]]), (5, [[.d (nts t.nodes), .d (ets t.edges)]])]
abbrev lgF (nb : Nat) : AV := .fn (.func 111) [.ptr (nb + 8) 0 0, .ptr (nb + 7) 0 0, .ptr (nb + 9) 0 0, .ptr (nb + 5) 0 0, .ptr (nb + 11) 0 0, .ptr (nb + 6) 0 0]
theorem lgF_to {t : Ty} {g : Gr} {node kind : Int} {out : Bool} {L : List Gr} {own : Own} {nb : Nat} {box : Nat → Option (List (List AV))} {q : Nat → Prop} : To (fun k => ¬lb nb box (lgBox t g node kind out L own) k = none) q none (lgF nb) (lgF nb) :=
  .same (.fn (by simp [lb_at, lk]))
def stLa (t : Ty) (g : Gr) (node kind : Int) (out : Bool) (nb : Nat) (box : Nat → Option (List (List AV))) (i : Nat) (L : List Gr) (x : Ac3) : AState :=
  ⟨tl [(19, I i), (18, I g.nodes.length), (17, .d (ints g.nodes)), (12, lgF nb), (11, .ptr (nb + 11) 0 0), (9, .ptr (nb + 9) 0 0), (7, .ptr (nb + 7) 0 0), (6, .ptr (nb + 6) 0 0), (5, .ptr (nb + 5) 0 0)],
    lb nb box (lgBox t g node kind out L x.own), x.tok, x.nt⟩
def stLb (t : Ty) (g : Gr) (node kind : Int) (out : Bool) (nb : Nat) (box : Nat → Option (List (List AV))) (k : Nat) (L : List Gr) (x : Ac3) : AState :=
  ⟨tl [(38, I k), (37, I t.nodes.length), (12, lgF nb), (11, .ptr (nb + 11) 0 0), (6, .ptr (nb + 6) 0 0), (5, .ptr (nb + 5) 0 0)],
    lb nb box (lgBox t g node kind out L x.own), x.tok, x.nt⟩
theorem larger_c (t : Ty) (ht : t.Fit) (g : Gr) (hg : g.Fit) (hgn : g.nodes.length ≤ 1000) (node kind : Int) (out : Bool) (hn : 0 ≤ node ∧ node < g.nodes.length) (tok : Nat → Bool) (nt : Nat) :
    DCall Tryz.prog 56 [t.av, g.av, I node, I kind, B out] tok nt (.osl 2 ((lrgL t g node kind out).map Gr.cells) (lrgX t g node kind out ⟨.full, tok, nt⟩).own) (lrgX t g node kind out ⟨.full, tok, nt⟩).tok (lrgX t g node kind out ⟨.full, tok, nt⟩).nt := by
  intro box nb
  have htn := ht.n
  refine sB Tryz.func56 Tryz.ntmps56 ?_
  intro hbox htok
  simp only at hbox htok
  apply AL.start
  have hx0 := Ac3.Ok.start htok
  try (simp)
  repeat (refine sR ?_; simp)
  refine sN ?_
  refine AL.loopT (fun i => stLa t g node kind out nb box i (flatN (lrA t g node kind out) i) (acA t g node kind out ⟨.full, tok, nt⟩ i)) (fun i => i ≤ g.nodes.length) (fun i => g.nodes.length - i) 0 (Nat.zero_le _) (Weaks.mk (Nat.le_refl _) rfl (by simp [ToL, lk, lb_at, acA, lgF_to]) (by simp [BoxL, lk, acA, flatN])) ?_
  rintro i S' hi hS
  simp only [stLa] at hS
  subst hS
  have hx := acA_ok (t := t) (g := g) (node := node) (kind := kind) (out := out) hx0 i
  have hlen := flatN_len (lrA_len t g node kind out) i
  have hstL : flatN (lrA t g node kind out) (i + 1) = flatN (lrA t g node kind out) i ++ lrA t g node kind out i := rfl
  have hstX : acA t g node kind out ⟨.full, tok, nt⟩ (i + 1) = if (out || ((i : Int) != node)) = true then (acA t g node kind out ⟨.full, tok, nt⟩ i).cl.add (addB t node kind out i g.nodes) else acA t g node kind out ⟨.full, tok, nt⟩ i := rfl
  have hlA : lrA t g node kind out i = if (out || ((i : Int) != node)) = true then addL t g node kind out i g.nodes else [] := rfl
  have hw := sW (i := i) (by omega)
  try (simp)
  repeat (refine sR ?_; simp)
  refine sC ?_
  simp
  refine ⟨fun hlt => ?_, fun hge => ?_⟩
  · generalize hX2 : acA t g node kind out ⟨.full, tok, nt⟩ (i + 1) = x2 at *
    generalize acA t g node kind out ⟨.full, tok, nt⟩ i = x at *
    generalize hL2 : flatN (lrA t g node kind out) (i + 1) = L2 at *
    generalize flatN (lrA t g node kind out) i = L at *
    generalize lrA t g node kind out i = A at *
    have hxl := hx.adv.live
    cases hc : (out || ((i : Int) != node))
    · rw [hc, if_neg (by simp)] at hstX hlA
      simp only [Bool.or_eq_false_iff] at hc
      obtain ⟨rfl, hc2⟩ := hc
      rw [hlA, List.append_nil] at hstL
      try (simp [hc2])
      repeat (refine sR ?_; simp [hc2])
      refine sC ?_
      simp [hc2]
      try (simp [hw])
      repeat (refine sR ?_; simp [hw])
      refine sE ?_
      refine ⟨i + 1, hlt, by omega, ?_⟩
      rw [hX2, hL2, hstL, hstX]
      exact Weaks.mk (by have := hx.adv.le; omega) rfl (by simp [ToL, lk, lb_at, lgF_to]) (by simp [BoxL, lk])
    · rw [hc, if_pos rfl] at hstX hlA
      have hl1 := fun (b : Nat → Option (List (List AV))) q1 q2 q3 q4 q5 q6 => larger1_c t ht g hg node kind out i g.nodes L x.own ⟨hn.1, hn.2⟩ ⟨by omega, by omega⟩ (by omega) b (nb + 57) (nb + 7) (nb + 8) (nb + 9) (nb + 5) (nb + 11) (nb + 6) x.cl.tok x.cl.nt hx.cl.adv.live q1 q2 q3 q4 q5 q6
      have hcond : out = true ∨ out = false ∧ ((i : Int) != node) = true := by
        cases out
        · exact .inr ⟨rfl, hc⟩
        · exact .inl rfl
      clear hc
      rcases hcond with rfl | ⟨rfl, hc⟩
      · try (simp)
        repeat (refine sR ?_; simp)
        refine sC ?_
        simp
        try (simp)
        repeat (refine sR ?_; simp)
        refine Stop.of_d (clone_c g.nodes hg.n _ _) ?_
        simp
        refine Stop.data ?_
        refine Stop.of_a (hl1 _ (by simp [lb_at, lk]) (by simp [lb_at, lk]) (by simp [lb_at, lk]) (by simp [lb_at, lk]) (by simp [lb_at, lk]) (by simp [lb_at, lk])) ?_
        rintro v m' ⟨rfl, rfl⟩
        simp only [FOps_nil]
        generalize hY : Ac3.add ⟨x.own, x.cl.tok, x.cl.nt⟩ (addB t node kind true i g.nodes) = y
        have hy : y.Ok tok nt := by rw [← hY]; exact hx.cl.add _
        have hxy : x2 = y := by rw [hstX, ← hY]; rfl
        try (simp [hw])
        repeat (refine sR ?_; simp [hw])
        refine sE ?_
        refine ⟨i + 1, hlt, by omega, ?_⟩
        rw [hX2, hL2, hstL, hlA, hxy]
        exact Weaks.mk (by have := hy.adv.le; omega) rfl (by simp [ToL, lk, lb_at, lgF_to]) (by simp [BoxL, lk])
      · try (simp [hc])
        repeat (refine sR ?_; simp [hc])
        refine sC ?_
        simp [hc]
        try (simp)
        repeat (refine sR ?_; simp)
        refine Stop.of_d (clone_c g.nodes hg.n _ _) ?_
        simp
        refine Stop.data ?_
        refine Stop.of_a (hl1 _ (by simp [lb_at, lk]) (by simp [lb_at, lk]) (by simp [lb_at, lk]) (by simp [lb_at, lk]) (by simp [lb_at, lk]) (by simp [lb_at, lk])) ?_
        rintro v m' ⟨rfl, rfl⟩
        simp only [FOps_nil]
        generalize hY : Ac3.add ⟨x.own, x.cl.tok, x.cl.nt⟩ (addB t node kind false i g.nodes) = y
        have hy : y.Ok tok nt := by rw [← hY]; exact hx.cl.add _
        have hxy : x2 = y := by rw [hstX, ← hY]; rfl
        try (simp [hw])
        repeat (refine sR ?_; simp [hw])
        refine sE ?_
        refine ⟨i + 1, hlt, by omega, ?_⟩
        rw [hX2, hL2, hstL, hlA, hxy]
        exact Weaks.mk (by have := hy.adv.le; omega) rfl (by simp [ToL, lk, lb_at, lgF_to]) (by simp [BoxL, lk])
  · refine sX ?_
    simp only [AU, ↓reduceIte]
    have : i = g.nodes.length := by omega
    subst this
    have hlrg : lrgX t g node kind out ⟨.full, tok, nt⟩ = acB t g node kind out (acA t g node kind out ⟨.full, tok, nt⟩ g.nodes.length) t.nodes.length := rfl
    have hlrl : lrgL t g node kind out = flatN (lrA t g node kind out) g.nodes.length ++ flatN (lrB t g node kind out) t.nodes.length := rfl
    rw [hlrg, hlrl]
    clear hstL hstX hlA hlrg hlrl hw
    generalize acA t g node kind out ⟨.full, tok, nt⟩ g.nodes.length = x at *
    generalize flatN (lrA t g node kind out) g.nodes.length = L at *
    try (simp)
    repeat (refine sR ?_; simp)
    refine sN ?_
    refine AL.loopT (fun k => stLb t g node kind out nb box k (L ++ flatN (lrB t g node kind out) k) (acB t g node kind out x k)) (fun k => k ≤ t.nodes.length) (fun k => t.nodes.length - k) 0 (Nat.zero_le _) (Weaks.mk (by have := hx.adv.le; omega) rfl (by simp [ToL, lk, lb_at, acB, lgF_to]) (by simp [BoxL, lk, acB, flatN])) ?_
    rintro k S' hk hS
    simp only [stLb] at hS
    subst hS
    have hxk := acB_ok (t := t) (g := g) (node := node) (kind := kind) (out := out) hx k
    have hlk := flatN_len (lrB_len t g node kind out) k
    have hstL : flatN (lrB t g node kind out) (k + 1) = flatN (lrB t g node kind out) k ++ lrB t g node kind out k := rfl
    have hstX : acB t g node kind out x (k + 1) = if leafB t k = true then (acB t g node kind out x k).cl2.add (addB t node kind out g.nodes.length (g.nodes ++ [(k : Int)])) else acB t g node kind out x k := rfl
    have hlA : lrB t g node kind out k = if leafB t k = true then addL t g node kind out g.nodes.length (g.nodes ++ [(k : Int)]) else [] := rfl
    have hw := sW (i := k) (by omega)
    try (simp)
    repeat (refine sR ?_; simp)
    refine sC ?_
    simp
    refine ⟨fun hlt => ?_, fun hge => ?_⟩
    · generalize hX2 : acB t g node kind out x (k + 1) = x2 at *
      generalize acB t g node kind out x k = y at *
      generalize hL2 : flatN (lrB t g node kind out) (k + 1) = L2 at *
      generalize flatN (lrB t g node kind out) k = M at *
      generalize lrB t g node kind out k = A at *
      have hc := leaf_c t (by omega) k
      try (simp)
      repeat (refine sR ?_; simp)
      refine Stop.of_d (hc _ _) ?_
      simp
      cases e1 : leafB t k
      · rw [e1, if_neg (by simp)] at hstX hlA
        try (simp)
        repeat (refine sR ?_; simp)
        refine sC ?_
        simp
        try (simp [hw])
        repeat (refine sR ?_; simp [hw])
        refine sE ?_
        refine ⟨k + 1, hlt, by omega, ?_⟩
        rw [hX2, hL2, hstL, hstX, hlA]
        exact Weaks.mk (by have := hxk.adv.le; omega) rfl (by simp [ToL, lk, lb_at, lgF_to]) (by simp [BoxL, lk])
      · rw [e1, if_pos rfl] at hstX hlA
        have hl1 := fun (b : Nat → Option (List (List AV))) q1 q2 q3 q4 q5 q6 => larger1_c t ht g hg node kind out g.nodes.length (g.nodes ++ [(k : Int)]) (L ++ M) y.own ⟨hn.1, by simp; omega⟩ ⟨by omega, by simp; omega⟩ (by simp; omega) b (nb + 57) (nb + 7) (nb + 8) (nb + 9) (nb + 5) (nb + 11) (nb + 6) y.cl2.tok y.cl2.nt hxk.cl2.adv.live q1 q2 q3 q4 q5 q6
        try (simp)
        repeat (refine sR ?_; simp)
        refine sC ?_
        simp
        refine sN ?_
        refine AL.splitL (by rfl) (by rfl) follows_Tryz (Nat.le_refl _) (by kernel_rfl) ?_
        simp
        refine Stop.of_d (clone_c g.nodes hg.n _ _) ?_
        simp
        refine ⟨⟨by omega, upd_same _ _ _⟩, ?_⟩
        rw [show rI g.nodes ++ [[D.raw (.int .i64 (k : Int))]] = rI (g.nodes ++ [(k : Int)]) by simp [rI]]
        refine Stop.data ?_
        refine Stop.of_a (hl1 _ (by simp [lb_at, lk]) (by simp [lb_at, lk]) (by simp [lb_at, lk]) (by simp [lb_at, lk]) (by simp [lb_at, lk]) (by simp [lb_at, lk])) ?_
        rintro v m' ⟨rfl, rfl⟩
        simp only [FOps_nil]
        generalize hY : Ac3.add ⟨y.own, y.cl2.tok, y.cl2.nt⟩ (addB t node kind out g.nodes.length (g.nodes ++ [(k : Int)])) = z
        have hz : z.Ok tok nt := by rw [← hY]; exact hxk.cl2.add _
        have hxz : x2 = z := by rw [hstX, ← hY]; rfl
        try (simp [hw])
        repeat (refine sR ?_; simp [hw])
        refine sE ?_
        refine ⟨k + 1, hlt, by omega, ?_⟩
        rw [hX2, hL2, hstL, hlA, hxz]
        exact Weaks.mk (by have := hz.adv.le; omega) rfl (by simp [ToL, lk, lb_at, lgF_to]) (by simp [BoxL, lk])
    · refine sX ?_
      simp only [AU, ↓reduceIte]
      have : k = t.nodes.length := by omega
      subst this
      generalize acB t g node kind out x t.nodes.length = y at *
      try (simp)
      repeat (refine sR ?_; simp)
      refine sN ?_
      refine AL.ret ?_
      try simp only [AU]
      refine ⟨by simp, Fin.own (by simp [resAs, resA]; rfl) hbox rfl hxk.adv.le ?_⟩
      simp [packA]
end Go.AM
namespace Go.AM
open Go Go.Proofs
theorem TK.adv {mtok : Nat → Bool} {nt0 : Nat} {tok tok' : Nat → Bool} {nt nt' : Nat} {os : List Own} {own' : Own} (h : TK mtok nt0 tok nt os) (ha : Adv tok nt .full tok' nt' own') : TK mtok nt0 tok' nt' (own' :: os) := by
  have hnew : ∀ s, own' = .tok s → nt ≤ s ∧ tok' s = true := fun s e => by
    have hl := ha.live
    rw [e] at hl
    rcases ha.new with e2 | ⟨s2, e2, hs⟩
    · rw [e] at e2; cases e2
    · rw [e] at e2; cases e2; exact ⟨hs, hl⟩
  refine ⟨fun t ht => ha.keep t (h.old t ht) (by simp), h.lt, Nat.le_trans h.le ha.le, fun o ho t e => ?_, ?_⟩
  · rcases List.mem_cons.1 ho with rfl | ho
    · obtain ⟨h1, h2⟩ := hnew t e
      exact ⟨h2, Nat.le_trans h.le h1, ha.lt t h2⟩
    · obtain ⟨h1, h2, h3⟩ := h.own o ho t e
      exact ⟨ha.keep t h1 (by simp), h2, Nat.lt_of_lt_of_le h3 ha.le⟩
  · refine List.pairwise_cons.2 ⟨fun b hb t e e2 => ?_, h.ne⟩
    obtain ⟨h1, h2⟩ := hnew t e
    obtain ⟨_, _, h3⟩ := h.own b hb t e2
    omega
def exX (g x : Gr) : Cd := cdOf 2 [.mk 5 [cdOf 1 []] (idM g) x [] 0 []]
def appE (t : Ty) (g : Gr) (i k : Nat) : List Gr := lrgL t g i k true ++ lrgL t g i k false
def appI (t : Ty) (g : Gr) (keep : List Int) (i : Nat) : List Gr := if (i : Int) ∈ keep then [] else flatN (appE t g i) t.edges.length
def appL (t : Ty) (r : Ru) : List Gr := flatN (appI t r.lg r.k.nodes) r.lg.nodes.length
def appC (t : Ty) (r : Ru) : Cd := cdOf 3 ((appL t r).map (exX r.lg))
def badG (x : Gr) : Bool := validG x != 0
def appR (t : Ty) (r : Ru) : Cd × Int :=
  if tpdE t r ≠ 0 then (cdOf 0 [], tpdE t r) else if anyB badG (appL t r) = true then (cdOf 0 [], 3) else if (appL t r).length = 0 then (cdOf 1 [], 0)
  else if validC r.lg (appC t r) ≠ 0 then (cdOf 0 [], validC r.lg (appC t r)) else (appC t r, 0)
theorem tpdE_zero {t : Ty} {r : Ru} (h : tpdE t r = 0) : tyE t = 0 ∧ strR r = 0 ∧ tpB t r = 0 := by
  unfold tpdE at h
  split at h
  · contradiction
  · rename_i h1
    split at h
    · contradiction
    · rename_i h2
      exact ⟨Decidable.not_not.1 h1, Decidable.not_not.1 h2, h⟩
theorem mem_flatN {α : Type} {f : Nat → List α} {x : α} : ∀ {n : Nat}, x ∈ flatN f n ↔ ∃ i, i < n ∧ x ∈ f i
  | 0 => by simp [flatN]
  | n + 1 => by
    rw [flatN, List.mem_append, mem_flatN]
    constructor
    · rintro (⟨i, hi, hx⟩ | hx)
      · exact ⟨i, by omega, hx⟩
      · exact ⟨n, by omega, hx⟩
    · rintro ⟨i, hi, hx⟩
      by_cases e : i = n
      · subst e; exact .inr hx
      · exact .inl ⟨i, by omega, hx⟩
theorem lrgX_ok (t : Ty) (g : Gr) (node kind : Int) (out : Bool) {tok : Nat → Bool} {nt : Nat} (h : ∀ t, tok t = true → t < nt) : (lrgX t g node kind out ⟨.full, tok, nt⟩).Ok tok nt := acB_ok (acA_ok (Ac3.Ok.start h) _) _
theorem lt_app {tok : Nat → Bool} {nt : Nat} (o : Own) (h : ∀ t, tok t = true → t < nt) : ∀ t, upd (o.kill tok) nt true t = true → t < nt + 1 := by
  intro t ht
  unfold upd at ht
  split at ht
  · omega
  · cases o with
    | full => have := h t ht; omega
    | tok s =>
      simp only [kill_tok, upd] at ht
      split at ht
      · cases ht
      · have := h t ht; omega
theorem lrgL_len (t : Ty) (g : Gr) (node kind : Int) (out : Bool) : (lrgL t g node kind out).length ≤ g.nodes.length + t.nodes.length := by
  have h1 := flatN_len (lrA_len t g node kind out) g.nodes.length
  have h2 := flatN_len (lrB_len t g node kind out) t.nodes.length
  rw [lrgL, List.length_append]
  omega
theorem flatN_le {α : Type} {f : Nat → List α} {M : Nat} (h : ∀ i, (f i).length ≤ M) : ∀ n, (flatN f n).length ≤ n * M
  | 0 => by simp [flatN]
  | n + 1 => by
    have := flatN_le h n
    have := h n
    simp only [flatN, List.length_append]
    rw [Nat.add_mul, Nat.one_mul]
    omega
theorem tyE_small {t : Ty} (h : tyE t = 0) : t.nodes.length ≤ 12 ∧ t.edges.length ≤ 20 := by
  unfold tyE at h
  split at h
  · cases h
  · split at h
    · cases h
    · split at h
      · cases h
      · omega
theorem appE_len {t : Ty} {g : Gr} (hn : g.nodes.length ≤ 40) (ht : t.nodes.length ≤ 12) (i k : Nat) : (appE t g i k).length ≤ 104 := by
  have h1 := lrgL_len t g i k true
  have h2 := lrgL_len t g i k false
  rw [appE, List.length_append]
  omega
theorem appI_len {t : Ty} {g : Gr} (hn : g.nodes.length ≤ 40) (ht : t.nodes.length ≤ 12) (he : t.edges.length ≤ 20) (keep : List Int) (i : Nat) : (appI t g keep i).length ≤ 2080 := by
  unfold appI
  split
  · simp
  · have := flatN_le (f := appE t g i) (fun k => appE_len hn ht i k) t.edges.length
    have : t.edges.length * 104 ≤ 20 * 104 := Nat.mul_le_mul_right _ he
    omega
theorem mem_lrgL {t : Ty} {g : Gr} {node kind : Int} {out : Bool} {x : Gr} (h : x ∈ lrgL t g node kind out) : (∃ w, x.nodes = g.nodes ++ w ∧ w.length ≤ 1) ∧ ∃ e, x.edges = g.edges ++ [e] := by
  have ha : ∀ other nodes, x ∈ addL t g node kind out other nodes → x.nodes = nodes ∧ ∃ e, x.edges = g.edges ++ [e] := fun other nodes h => by
    unfold addL at h
    split at h
    · rw [List.mem_singleton] at h; subst h; exact ⟨rfl, _, rfl⟩
    · cases h
  rcases List.mem_append.1 h with h | h
  · obtain ⟨i, _, h⟩ := mem_flatN.1 h
    unfold lrA at h
    split at h
    · obtain ⟨h1, h2⟩ := ha _ _ h
      exact ⟨⟨[], by simpa using h1, by simp⟩, h2⟩
    · cases h
  · obtain ⟨i, _, h⟩ := mem_flatN.1 h
    unfold lrB at h
    split at h
    · obtain ⟨h1, h2⟩ := ha _ _ h
      exact ⟨⟨_, h1, by simp⟩, h2⟩
    · cases h
theorem mem_appE {t : Ty} {g : Gr} {i k : Nat} {x : Gr} (h : x ∈ appE t g i k) : (∃ w, x.nodes = g.nodes ++ w ∧ w.length ≤ 1) ∧ ∃ e, x.edges = g.edges ++ [e] := by
  rcases List.mem_append.1 h with h | h
  · exact mem_lrgL h
  · exact mem_lrgL h
theorem appE_fit {t : Ty} {g : Gr} (hn : g.nodes.length ≤ 40) (he : g.edges.length ≤ 80) {i k : Nat} {x : Gr} (h : x ∈ appE t g i k) : x.Fit := by
  obtain ⟨⟨w, h1, h2⟩, e, h3⟩ := mem_appE h
  refine ⟨?_, ?_⟩
  · rw [h1, List.length_append]; omega
  · rw [h3, List.length_append]; simp; omega
def okL (L : List Gr) : Bool := !anyB badG L
theorem okL_iff {L : List Gr} : okL L = true ↔ ∀ x ∈ L, badG x = false := by simp [okL, anyB]
theorem okL_add {L A : List Gr} {j : Nat} (hj : j < A.length) (h : okL (L ++ A.take j) = true) (h2 : badG A[j] = false) : okL (L ++ A.take (j + 1)) = true := by
  rw [okL_iff] at h ⊢
  intro x hx
  rw [List.take_succ_eq_append_getElem hj, ← List.append_assoc] at hx
  rcases List.mem_append.1 hx with hx | hx
  · exact h x hx
  · rw [List.mem_singleton.1 hx]; exact h2
abbrev apBox (t : Ty) (r : Ru) (K : List Cd) (own : Own) : List (Nat × List (List AV)) :=
  [(10, [[I 3, .osl 9 (K.map Cd.cells) own, nilS, nilS, nilS, nilS, nilS, z0i, nilS]]), (8, [[.d (ints (idM r.lg).nodes), .d (ints (idM r.lg).edges)]]), (7, [[.d (ints r.lg.nodes), .d (AM.edges r.lg.edges)]]), (4, [[z0i, nilS, nilS, nilS, nilS, nilS, nilS, z0i, nilS]]), (3, [r.row]), (2, [[.d (nts t.nodes), .d (ets t.edges)]])]
abbrev apS (r : Ru) (nb i : Nat) : List (Nat × AV) := [(40, I i), (39, I r.lg.nodes.length), (38, .d (ints r.lg.nodes)), (10, .ptr (nb + 10) 0 0), (8, .ptr (nb + 8) 0 0), (7, .ptr (nb + 7) 0 0), (4, .ptr (nb + 4) 0 0), (3, .ptr (nb + 3) 0 0), (2, .ptr (nb + 2) 0 0)]
structure Ix where
  i : Nat
  x : Ac3
def stA1 (t : Ty) (r : Ru) (nb : Nat) (box : Nat → Option (List (List AV))) (i : Nat) (L : List Gr) (x : Ac3) : AState := ⟨tl (apS r nb i), lb nb box (apBox t r (L.map (exX r.lg)) x.own), x.tok, x.nt⟩
def stA2 (t : Ty) (r : Ru) (i : Nat) (nb : Nat) (box : Nat → Option (List (List AV))) (k : Nat) (L : List Gr) (x : Ac3) : AState := ⟨tl ((51, I k) :: (50, I t.edges.length) :: (11, I i) :: apS r nb i), lb nb box (apBox t r (L.map (exX r.lg)) x.own), x.tok, x.nt⟩
def stA3 (t : Ty) (r : Ru) (i k : Nat) (A : List Gr) (nb : Nat) (box : Nat → Option (List (List AV))) (j : Nat) (L : List Gr) (x : Ac3) : AState := ⟨tl ((66, I j) :: (65, I A.length) :: (64, .d (grs A)) :: (51, I k) :: (50, I t.edges.length) :: (11, I i) :: apS r nb i), lb nb box (apBox t r (L.map (exX r.lg)) x.own), x.tok, x.nt⟩
theorem exX_fit {g x : Gr} (hg : g.Fit) (hx : x.Fit) : (exX g x).Fit := by
  have h1 : (cdOf 1 []).Fit := cdOf_fit (by rw [kidN_eq]; simp) (by simp)
  refine cdOf_fit (by rw [kidN_eq]; simp) fun y hy => ?_
  rw [List.mem_singleton] at hy
  subst hy
  exact .mk (by rw [kidN_eq]; simp [Cd.kids]) ⟨by simpa [Cd.m, idM] using hg.n, by simpa [Cd.m, idM] using hg.e⟩ (by simpa [Cd.g] using hx) (by rw [bigN_eq]; simp [Cd.sl]) (by rw [bigN_eq]; simp [Cd.te]) (by simpa [Cd.kids] using h1)
theorem appC_fit {t : Ty} {r : Ru} (hn : r.lg.nodes.length ≤ 40) (he : r.lg.edges.length ≤ 80) (hl : (appL t r).length ≤ 83200) : (appC t r).Fit := by
  refine cdOf_fit (by rw [kidN_eq]; simp; omega) fun y hy => ?_
  obtain ⟨x, hx, rfl⟩ := List.mem_map.1 hy
  obtain ⟨i, _, h1⟩ := mem_flatN.1 hx
  unfold appI at h1
  split at h1
  · cases h1
  · obtain ⟨k, _, h2⟩ := mem_flatN.1 h1
    exact exX_fit ⟨by omega, by omega⟩ (appE_fit hn he h2)
set_option maxRecDepth 100000 in
theorem applicable_c (t : Ty) (ht : t.Fit) (r : Ru) (hr : r.Fit) (tok : Nat → Bool) (nt : Nat) : DCall Tryz.prog 19 [t.av, r.av] tok nt (.tup [(appR t r).1.av, I (appR t r).2]) tok nt := by
  intro box nb
  have htn := ht.n
  have h1 := typed_c t ht r hr
  have hz := @tpdE_zero t r
  obtain ⟨N, hN⟩ : ∃ N, appR t r = N := ⟨_, rfl⟩
  rw [hN]
  unfold appR at hN
  generalize tpdE t r = E at *
  refine sB Tryz.func19 Tryz.ntmps19 ?_
  intro hbox htok
  simp only at hbox htok
  apply AL.start
  try (simp)
  repeat (refine sR ?_; simp)
  refine Stop.of_d (h1 _ _) ?_
  simp
  try (simp)
  repeat (refine sR ?_; simp)
  by_cases e1 : E = 0
  · rw [if_neg (by simp [e1])] at hN
    obtain ⟨z1, z2, z3⟩ := hz e1
    obtain ⟨v1, v2⟩ := strR_valid z2
    have hid := identity_c r.lg hr.lg v1
    refine sC ?_
    simp [e1]
    try (simp)
    repeat (refine sR ?_; simp)
    refine Stop.of_d (hid _ _) ?_
    simp
    try (simp)
    repeat (refine sR ?_; simp)
    refine sC ?_
    simp
    try (simp)
    repeat (refine sR ?_; simp)
    refine sN ?_
    have hsm := tyE_small z1
    have hnn : r.lg.nodes.length ≤ 40 := (validG_types v1).1.1
    have hee : r.lg.edges.length ≤ 80 := (validG_types v1).1.2
    refine AL.loopT (fun y : Ix => stA1 t r nb box y.i (flatN (appI t r.lg r.k.nodes) y.i) y.x) (fun y => y.i ≤ r.lg.nodes.length ∧ okL (flatN (appI t r.lg r.k.nodes) y.i) = true ∧ TK tok nt y.x.tok y.x.nt [y.x.own] ∧ ∀ t, y.x.tok t = true → t < y.x.nt) (fun y => r.lg.nodes.length - y.i) ⟨0, ⟨.full, tok, nt⟩⟩ ⟨Nat.zero_le _, rfl, (TK.start htok).full, htok⟩ (Weaks.mk (Nat.le_refl _) rfl (by simp [ToL, lk, lb_at]) (by simp [BoxL, lk, flatN])) ?_
    rintro ⟨i, x⟩ S' ⟨hi, hok, htk, hlt0⟩ hS
    simp only [stA1] at hS hi hok htk hlt0
    subst hS
    have hw := sW (i := i) (by omega)
    try (simp)
    repeat (refine sR ?_; simp)
    refine sC ?_
    simp
    refine ⟨fun hlt => ?_, fun hge => ?_⟩
    · have hcn := contains_c r.k.nodes i hr.k.n
      have hst : flatN (appI t r.lg r.k.nodes) (i + 1) = flatN (appI t r.lg r.k.nodes) i ++ appI t r.lg r.k.nodes i := rfl
      have hLl : (flatN (appI t r.lg r.k.nodes) i).length ≤ 83200 := by
        have h1 := flatN_le (f := appI t r.lg r.k.nodes) (fun k => appI_len hnn hsm.1 hsm.2 _ k) i
        have h2 : i * 2080 ≤ 40 * 2080 := Nat.mul_le_mul_right _ (by omega)
        omega
      generalize hL2 : flatN (appI t r.lg r.k.nodes) (i + 1) = L2 at *
      generalize flatN (appI t r.lg r.k.nodes) i = L at *
      try (simp [hlt])
      repeat (refine sR ?_; simp [hlt])
      refine Stop.of_d (hcn _ _) ?_
      simp
      by_cases hm : (i : Int) ∈ r.k.nodes
      · have hI : appI t r.lg r.k.nodes i = [] := if_pos hm
        rw [hI, List.append_nil] at hst
        refine sC ?_
        simp [hm]
        refine sX ?_
        simp only [AU, ↓reduceIte]
        try (simp [hw])
        repeat (refine sR ?_; simp [hw])
        refine sE ?_
        refine ⟨⟨i + 1, x⟩, ⟨hlt, ?_, htk, hlt0⟩, by simp only; omega, ?_⟩
        · simp only [hL2, hst, hok]
        · simp only [hL2, hst]
          exact Weaks.mk htk.le rfl (by simp [ToL, lk, lb_at]) (by simp [BoxL, lk])
      · have hI : appI t r.lg r.k.nodes i = flatN (appE t r.lg i) t.edges.length := if_neg hm
        rw [hI] at hst
        have hbadI : ∀ k y, k < t.edges.length → y ∈ appE t r.lg i k → badG y = true → anyB badG (appL t r) = true := fun k y hk hy hb => List.any_eq_true.2 ⟨y, mem_flatN.2 ⟨i, hlt, by rw [hI]; exact mem_flatN.2 ⟨k, hk, hy⟩⟩, hb⟩
        refine sC ?_
        simp [hm]
        try (simp)
        repeat (refine sR ?_; simp)
        refine sN ?_
        refine AL.loopT (fun y : Ix => stA2 t r i nb box y.i (L ++ flatN (appE t r.lg i) y.i) y.x) (fun y => y.i ≤ t.edges.length ∧ okL (L ++ flatN (appE t r.lg i) y.i) = true ∧ TK tok nt y.x.tok y.x.nt [y.x.own] ∧ ∀ t, y.x.tok t = true → t < y.x.nt) (fun y => t.edges.length - y.i) ⟨0, x⟩ ⟨Nat.zero_le _, by simpa [flatN] using hok, htk, hlt0⟩ (Weaks.mk htk.le rfl (by simp [ToL, lk, lb_at, flatN]) (by simp [BoxL, lk, flatN])) ?_
        clear htk hlt0 hok
        rintro ⟨k, x⟩ S' ⟨hk, hok, htk, hlt0⟩ hS
        simp only [stA2] at hS hk hok htk hlt0
        subst hS
        obtain ⟨M, hM⟩ : ∃ M, L ++ flatN (appE t r.lg i) k = M := ⟨_, rfl⟩
        rw [hM] at hok ⊢
        have hMl : M.length ≤ 100000 := by
          have h1 := flatN_le (f := appE t r.lg i) (fun k => appE_len hnn hsm.1 i k) k
          have h2 : k * 104 ≤ 20 * 104 := Nat.mul_le_mul_right _ (by omega)
          rw [← hM, List.length_append]
          omega
        have hwk := sW (i := k) (by omega)
        try (simp)
        repeat (refine sR ?_; simp)
        refine sC ?_
        simp
        refine ⟨fun hltk => ?_, fun hgek => ?_⟩
        · have c1 := larger_c t ht r.lg hr.lg (by omega) i k true ⟨by omega, by omega⟩ x.tok x.nt
          have x1 := lrgX_ok t r.lg i k true hlt0
          generalize hX1 : lrgX t r.lg i k true ⟨.full, x.tok, x.nt⟩ = y1 at *
          have c2 := larger_c t ht r.lg hr.lg (by omega) i k false ⟨by omega, by omega⟩ y1.tok y1.nt
          have x2 := lrgX_ok t r.lg i k false x1.adv.lt
          generalize hX2 : lrgX t r.lg i k false ⟨.full, y1.tok, y1.nt⟩ = y2 at *
          have hstk : L ++ flatN (appE t r.lg i) (k + 1) = M ++ appE t r.lg i k := by rw [← hM, flatN, List.append_assoc]
          have hAe : appE t r.lg i k = lrgL t r.lg i k true ++ lrgL t r.lg i k false := rfl
          have hAl := appE_len hnn hsm.1 i k
          have hbadK := fun y => hbadI k y hltk
          generalize hL3 : L ++ flatN (appE t r.lg i) (k + 1) = L3 at *
          have hAf := fun x (hx : x ∈ appE t r.lg i k) => appE_fit hnn hee hx
          generalize appE t r.lg i k = A at *
          generalize lrgL t r.lg i k true = A1 at *
          generalize lrgL t r.lg i k false = A2 at *
          have hA12 : A1.length + A2.length ≤ 104 := by rw [hAe, List.length_append] at hAl; exact hAl
          have htk1 := htk.adv x1.adv
          have htk2 := (htk1.adv x2.adv).swap
          try (simp)
          repeat (refine sR ?_; simp)
          refine Stop.of_d (c1) ?_
          simp
          refine Stop.of_d (c2) ?_
          simp
          refine ⟨⟨by omega, htk2.live⟩, ?_⟩
          have htk3 := htk2.app.tail.tail
          have hlt3 := lt_app y1.own x2.adv.lt
          generalize hT3 : upd (y1.own.kill y2.tok) y2.nt true = tok3 at *
          rw [← List.map_append, ← hAe]
          have hA3 : (A1.length : Int) + A2.length = (A.length : Nat) := by rw [hAe, List.length_append]; rfl
          simp only [hA3]
          refine sN ?_
          refine AL.loopT (fun y : Ix => stA3 t r i k A nb box y.i (M ++ A.take y.i) y.x) (fun y => y.i ≤ A.length ∧ okL (M ++ A.take y.i) = true ∧ TK tok nt y.x.tok y.x.nt [y.x.own] ∧ ∀ t, y.x.tok t = true → t < y.x.nt) (fun y => A.length - y.i) ⟨0, ⟨x.own, tok3, y2.nt + 1⟩⟩ ⟨Nat.zero_le _, by simpa using hok, htk3, hlt3⟩ (Weaks.mk htk3.le rfl (by simp [ToL, lk, lb_at, To.data]) (by simp [BoxL, lk])) ?_
          clear htk hlt0 hok htk1 htk2 htk3 hlt3 x1 x2 c1 c2
          rintro ⟨j, x⟩ S' ⟨hj, hok, htk, hlt0⟩ hS
          simp only [stA3] at hS hj hok htk hlt0
          subst hS
          obtain ⟨Q, hQ⟩ : ∃ Q, M ++ A.take j = Q := ⟨_, rfl⟩
          rw [hQ] at hok ⊢
          have hQl : Q.length ≤ 200000 := by
            rw [← hQ, List.length_append, List.length_take]
            omega
          have hwj := sW (i := j) (by omega)
          try (simp)
          repeat (refine sR ?_; simp)
          refine sC ?_
          simp
          refine ⟨fun hltj => ?_, fun hgej => ?_⟩
          · have hmem : A[j] ∈ A := List.getElem_mem hltj
            have hgv := graphValid_c A[j] (hAf _ hmem)
            have hadd := okL_add hltj (by rw [hQ]; exact hok)
            have hbd := hbadK A[j] hmem
            have hstj : M ++ A.take (j + 1) = Q ++ [A[j]] := by rw [List.take_succ_eq_append_getElem hltj, ← List.append_assoc, hQ]
            try (simp [hltj])
            repeat (refine sR ?_; simp [hltj])
            refine Stop.of_d (hgv _ _) ?_
            simp
            try (simp)
            repeat (refine sR ?_; simp)
            by_cases e3 : validG A[j] = 0
            · have hbf : badG A[j] = false := by simp [badG, e3]
              have hidn : (idM r.lg).nodes.length ≤ 1000000 := by simp [idM]; omega
              have hide : (idM r.lg).edges.length ≤ 1000000 := by simp [idM]; omega
              refine sC ?_
              simp [e3]
              generalize A[j] = a at *
              try (simp)
              repeat (refine sR ?_; simp)
              refine Stop.of_d (clone_c (idM r.lg).nodes hidn _ _) ?_
              simp
              refine Stop.of_d (clone_c (idM r.lg).edges hide _ _) ?_
              simp
              refine Stop.of_d (yes_c _ _) ?_
              simp
              try (simp)
              repeat (refine sR ?_; simp)
              have htk2 := (htk.full.app.full.app).tail.tail
              have hlt2 := lt_app .full (lt_app .full hlt0)
              refine ⟨⟨by omega, htk2.live⟩, ?_⟩
              try (simp [hwj])
              repeat (refine sR ?_; simp [hwj])
              refine sE ?_
              refine ⟨⟨j + 1, ⟨_, _, _⟩⟩, ⟨hltj, hadd hbf, htk2.app, lt_app _ hlt2⟩, by simp only; omega, ?_⟩
              simp only [hstj]
              refine Weaks.mk htk2.app.le rfl (by simp [ToL, lk, lb_at]) ?_
              simp [BoxL, lk]
              refine to_snoc ?_ _
              simp [exX, dsub_one, cdOf, Cd.cells_eq, Cd.kind, Cd.kids, Cd.m, Cd.g, Cd.sl, Cd.vars, Cd.te, slots, tests, conds, ints, AM.edges]
            · have hbt : badG A[j] = true := by simp [badG, e3]
              have b3 : (validG A[j] != 0) = true := by simp [e3]
              rw [if_pos (hbd hbt)] at hN
              refine sC ?_
              simp [b3]
              try (simp)
              repeat (refine sR ?_; simp)
              refine sT ?_
              try simp only [AU]
              refine ⟨by simp, sF hbox htok htk.old htk.le ?_⟩
              simp [packA, ← hN, cdOf, Cd.kind, Cd.kids, Cd.m, Cd.g, Cd.sl, Cd.vars, Cd.te, conds, ints, AM.edges, slots, tests]
          · refine sX ?_
            simp only [AU, ↓reduceIte]
            have hjA : j = A.length := by omega
            rw [hjA, List.take_length] at hQ
            try (simp [hwk])
            repeat (refine sR ?_; simp [hwk])
            refine sE ?_
            refine ⟨⟨k + 1, x⟩, ⟨hltk, ?_, htk, hlt0⟩, by simp only; omega, ?_⟩
            · simp only [hL3, hstk, hQ, hok]
            · simp only [hL3, hstk, hQ]
              exact Weaks.mk htk.le rfl (by simp [ToL, lk, lb_at]) (by simp [BoxL, lk])
        · refine sX ?_
          simp only [AU, ↓reduceIte]
          have hkm : k = t.edges.length := by omega
          rw [hkm, ← hst] at hM
          try (simp [hw])
          repeat (refine sR ?_; simp [hw])
          refine sE ?_
          refine ⟨⟨i + 1, x⟩, ⟨hlt, ?_, htk, hlt0⟩, by simp only; omega, ?_⟩
          · simp only [hL2, hM, hok]
          · simp only [hL2, hM]
            exact Weaks.mk htk.le rfl (by simp [ToL, lk, lb_at]) (by simp [BoxL, lk])
    · refine sX ?_
      simp only [AU, ↓reduceIte]
      have hin : i = r.lg.nodes.length := by omega
      have hAL : flatN (appI t r.lg r.k.nodes) i = appL t r := by rw [hin]; rfl
      have hAn : anyB badG (appL t r) = false := by
        rw [hAL] at hok
        simpa [okL] using hok
      have hALl : (appL t r).length ≤ 83200 := by
        have h1 := flatN_le (f := appI t r.lg r.k.nodes) (fun k => appI_len hnn hsm.1 hsm.2 _ k) r.lg.nodes.length
        have h2 : r.lg.nodes.length * 2080 ≤ 40 * 2080 := Nat.mul_le_mul_right _ (by omega)
        rw [appL]
        omega
      rw [hAL]
      rw [if_neg (by rw [hAn]; simp)] at hN
      clear hok
      have hlm : (List.map (exX r.lg) (appL t r)).length = (appL t r).length := List.length_map _
      have hfit : (appC t r).Fit := appC_fit (t := t) hnn hee hALl
      have hvc := validC_c r.lg (appC t r) hr.lg hfit
      have hC : appC t r = cdOf 3 ((appL t r).map (exX r.lg)) := rfl
      rw [hC] at hvc hN
      generalize hKK : (appL t r).map (exX r.lg) = KK at *
      by_cases e4 : (appL t r).length = 0
      · have e4' : KK = [] := List.length_eq_zero_iff.1 (by rw [hlm]; exact e4)
        rw [if_pos e4] at hN
        try (simp [e4'])
        repeat (refine sR ?_; simp [e4'])
        refine sC ?_
        simp [e4']
        try (simp)
        repeat (refine sR ?_; simp)
        refine Stop.of_d (yes_c _ _) ?_
        simp
        refine sT ?_
        try simp only [AU]
        refine ⟨by simp, sF hbox htok htk.old htk.le ?_⟩
        simp [packA, ← hN, cdOf, Cd.kind, Cd.kids, Cd.m, Cd.g, Cd.sl, Cd.vars, Cd.te, conds, ints, AM.edges, slots, tests]
      · have e4' : ¬ KK = [] := fun h => e4 (by rw [← hlm, h]; rfl)
        rw [if_neg e4] at hN
        try (simp [e4'])
        repeat (refine sR ?_; simp [e4'])
        refine sC ?_
        simp [e4']
        try (simp)
        repeat (refine sR ?_; simp)
        refine Stop.sub (args' := [r.lg.av, (cdOf 3 KK).av]) ⟨Sub.refl _, Sub.agg ⟨Sub.refl _, Sub.data _ _ _, Sub.nil _ _ _, Sub.nil _ _ _, Sub.nil _ _ _, Sub.nil _ _ _, Sub.nil _ _ _, Sub.refl _, Sub.nil _ _ _, trivial⟩, trivial⟩ ?_
        refine Stop.of_d (hvc _ _) ?_
        try (simp)
        repeat (refine sR ?_; simp)
        generalize validC r.lg (cdOf 3 KK) = V at *
        by_cases e5 : V = 0
        · rw [if_neg (by simp [e5])] at hN
          refine sC ?_
          simp [e5]
          try (simp)
          repeat (refine sR ?_; simp)
          refine sT ?_
          try simp only [AU]
          refine ⟨by simp, sF hbox htok htk.old htk.le ?_⟩
          simp [packA, ← hN, cdOf, Cd.kind, Cd.kids, Cd.m, Cd.g, Cd.sl, Cd.vars, Cd.te, conds, ints, AM.edges, slots, tests]
        · rw [if_pos e5] at hN
          have b5 : (V != 0) = true := by simp [e5]
          refine sC ?_
          simp [b5]
          try (simp)
          repeat (refine sR ?_; simp)
          refine sT ?_
          try simp only [AU]
          refine ⟨by simp, sF hbox htok htk.old htk.le ?_⟩
          simp [packA, ← hN, cdOf, Cd.kind, Cd.kids, Cd.m, Cd.g, Cd.sl, Cd.vars, Cd.te, conds, ints, AM.edges, slots, tests]
  · rw [if_pos e1] at hN
    have b1 : (E != 0) = true := by simp [e1]
    refine sC ?_
    simp [b1]
    try (simp)
    repeat (refine sR ?_; simp)
    refine sT ?_
    try simp only [AU]
    refine ⟨by simp, sF hbox htok (fun _ h => h) (Nat.le_refl _) ?_⟩
    simp [packA, ← hN, cdOf, Cd.kind, Cd.kids, Cd.m, Cd.g, Cd.sl, Cd.vars, Cd.te, conds, ints, AM.edges, slots, tests]
end Go.AM
namespace Go.AM
open Go Go.Proofs
def Ac3.ed (x : Ac3) (s : Nat) : Ac3 := ⟨.tok (x.nt + 1), upd (x.own.kill (upd (upd x.tok s false) x.nt true)) (x.nt + 1) true, x.nt + 2⟩
def Ac3.nd (x : Ac3) (s : Nat) : Ac3 := ⟨x.own, upd (upd x.tok s false) x.nt true, x.nt + 1⟩
end Go.AM
namespace Go.AM
open Go Go.Proofs
end Go.AM
namespace Go.AM
open Go Go.Proofs
end Go.AM
namespace Go.AM
open Go Go.Proofs
def zr (n : Nat) : Gr := ⟨List.replicate n 0, []⟩
def dropR : Ru := ⟨eB, zr 2, [], 0, [], zr 1, [], 0, [], ⟨[0], []⟩, ⟨[0], []⟩, true, cdOf 0 []⟩
def awC : Cd := .mk 5 [cdOf 1 []] ⟨[0], []⟩ (zr 2) [] 0 []
def awT : Ty := ⟨[⟨⟨#[65]⟩, -1, false, []⟩], [⟨⟨#[101]⟩, 0, 0, 0, -1, 0, -1⟩]⟩
theorem aw_left : (leftR dropR awC).2 = 0 ∧ (leftR dropR awC).1.kind = 5 ∧ (leftR dropR awC).1.g.nodes.length = 3 := by decide +kernel
theorem aw_app : (appR awT dropR).2 = 0 ∧ (appR awT dropR).1.kind = 3 ∧ (appR awT dropR).1.kids.length = 5 := by decide +kernel
theorem to_frz0 {p q : Nat → Prop} {k n : Nat} : To p q (some (k, 1, List.replicate n [D.raw (.int .i64 0)])) (.msl k 0 n 1) (.d (ints (List.replicate n 0))) := by
  have h := To.frz (p := p) (q := q) (fz := some (k, 1, List.replicate n [D.raw (.int .i64 0)])) (k := k) (sz := 1) (es := List.replicate n [D.raw (.int .i64 0)]) rfl
  simp [ints] at h ⊢
theorem Sub.ds {sz : Nat} {es : List (List D)} {o : Own} {y : D} (h : DSub (.sl sz es) y) : Sub (.osl sz es o) (.d y) := fun G w v r => by
  cases r.asD with
  | d r1 => exact .d (r1.dsub h)
theorem nodes34_c (n : Nat) (hn : n ≤ 10) (tok : Nat → Bool) (nt : Nat) : DCall Tryz.prog 33 [I n] tok nt (zr n).av tok nt := by
  intro box nb
  refine sB Tryz.func33 Tryz.ntmps33 ?_
  intro hbox htok
  simp only at hbox htok
  apply AL.start
  try (simp)
  repeat (refine sR ?_; simp)
  refine ⟨by omega, ?_⟩
  refine AL.weak (Weaks.frz (l' := [(2, .ptr (nb + 2) 0 0)]) (loc' := [(2, [[.d (ints (List.replicate n 0)), nilS]])]) 4 1 (rI (List.replicate n 0)) (Nat.le_refl _) rfl (by simp [lk, rowsI_eq]) (by simp [lk]) (by simp) (by simp [ToL, lk, lb_at]) (by simp [BoxL, lk]; exact to_frz0)) ?_
  refine sT ?_
  try simp only [AU]
  refine ⟨by simp, sF hbox htok (fun _ h => h) (Nat.le_refl _) ?_⟩
  simp [packA, zr, AM.edges]
theorem drop34_c (tok : Nat → Bool) (nt : Nat) : DCall Tryz.prog 34 [] tok nt dropR.av tok nt := by
  intro box nb
  refine sB Tryz.func34 Tryz.ntmps34 ?_
  intro hbox htok
  simp only at hbox htok
  apply AL.start
  try (simp)
  repeat (refine sR ?_; simp)
  refine Stop.of_d (nodes34_c 2 (by omega) _ _) ?_
  simp
  refine Stop.of_d (nodes34_c 1 (by omega) _ _) ?_
  simp
  try (simp)
  repeat (refine sR ?_; simp)
  refine sT ?_
  try simp only [AU]
  refine ⟨by simp, sF hbox htok (fun _ h => h) (Nat.le_refl _) ?_⟩
  simp [packA, dropR, zr, AM.edges, ints, slots, tests, cdOf, Cd.kind, Cd.kids, Cd.m, Cd.g, Cd.sl, Cd.vars, Cd.te, conds, rI, rE]
theorem dropR_fit : dropR.Fit := ⟨⟨by simp [dropR, zr], by simp [dropR, zr]⟩, ⟨by simp [dropR, zr], by simp [dropR, zr]⟩, ⟨by simp [dropR], by simp [dropR]⟩, ⟨by simp [dropR], by simp [dropR]⟩, by rw [bigN_eq]; simp [dropR], by rw [bigN_eq]; simp [dropR], by rw [bigN_eq]; simp [dropR], by rw [bigN_eq]; simp [dropR]⟩
theorem awC_fit : awC.Fit := .mk (by rw [kidN_eq]; simp [awC, Cd.kids]) ⟨by simp [awC, Cd.m], by simp [awC, Cd.m]⟩ ⟨by simp [awC, Cd.g, zr], by simp [awC, Cd.g, zr]⟩ (by rw [bigN_eq]; simp [awC, Cd.sl]) (by rw [bigN_eq]; simp [awC, Cd.te]) fun x hx => by
  have : x = cdOf 1 [] := by simpa [awC, Cd.kids] using hx
  subst this
  exact cdOf_fit (by rw [kidN_eq]; simp) (by simp)
theorem awT_fit : awT.Fit := ⟨by decide, by decide, by decide, by decide, by simp [awT]⟩
set_option maxRecDepth 100000 in
theorem awake34_c (tok : Nat → Bool) (nt : Nat) : DCall Tryz.prog 11 [] tok nt (B true) tok nt := by
  intro box nb
  have h1 := leftP_c dropR awC dropR_fit awC_fit
  have h2 := applicable_c awT awT_fit dropR dropR_fit
  obtain ⟨s1, s2, s3⟩ := aw_left
  obtain ⟨u1, u2, u3⟩ := aw_app
  generalize leftR dropR awC = L at *
  generalize appR awT dropR = A at *
  refine sB Tryz.func11 Tryz.ntmps11 ?_
  intro hbox htok
  simp only at hbox htok
  apply AL.start
  try (simp)
  repeat (refine sR ?_; simp)
  refine Stop.of_d (nodes34_c 2 (by omega) _ _) ?_
  simp
  try (simp)
  repeat (refine sR ?_; simp)
  refine Stop.of_d (drop34_c _ _) ?_
  simp
  refine Stop.sub (args' := [dropR.av, awC.av]) ⟨Sub.refl _, Sub.agg ⟨Sub.refl _, Sub.ds (dsub_one (by simp [cdOf, Cd.cells_eq, Cd.kind, Cd.kids, Cd.m, Cd.g, Cd.sl, Cd.vars, Cd.te, slots, tests, conds, ints, AM.edges])), Sub.data _ _ _, Sub.nil _ _ _, Sub.refl _, Sub.refl _, Sub.nil _ _ _, Sub.refl _, Sub.nil _ _ _, trivial⟩, trivial⟩ ?_
  refine Stop.of_d (h1 _ _) ?_
  simp
  try (simp)
  repeat (refine sR ?_; simp)
  refine Stop.of_d (drop34_c _ _) ?_
  simp
  refine Stop.sub (args' := [awT.av, dropR.av]) ⟨Sub.agg ⟨Sub.ds (dsub_one (by simp [atts])), Sub.ds (dsub_one (by simp)), trivial⟩, Sub.refl _, trivial⟩ ?_
  refine Stop.of_d (h2 _ _) ?_
  simp
  try (simp [s1, s2, s3, u1, u2, u3])
  repeat (refine sR ?_; simp [s1, s2, s3, u1, u2, u3])
  refine sT ?_
  try simp only [AU]
  refine ⟨by simp, sF hbox htok (fun _ h => h) (Nat.le_refl _) ?_⟩
  simp [packA]
end Go.AM
namespace Go.AM
open Go Go.Proofs
def RS (n : Int) (s t : St2) : Prop := (s.2 = 0 ∧ t.2 = 0 ∧ s.1 + t.1 = 2000 ∧ 0 ≤ s.1 ∧ s.1 ≤ n) ∨ (s.2 = 3 ∧ t.2 = 3)
theorem RS.up {n m : Int} {s t : St2} (h : RS n s t) (hnm : n ≤ m) : RS m s t := by
  rcases h with ⟨h1, h2, h3, h4, h5⟩ | h
  · exact .inl ⟨h1, h2, h3, h4, by omega⟩
  · exact .inr h
theorem RS.zero {n : Int} {s t : St2} (h : RS n s t) (h0 : s.2 = 0) : t.2 = 0 := by
  rcases h with h | h
  · exact h.2.1
  · rw [h.1] at h0; cases h0
end Go.AM
namespace Go.AM
open Go Go.Proofs
theorem nil_fb (k : Int) : (cdOf k []).Fit ∧ (cdOf k []).Bare := ⟨cdOf_fit (by rw [kidN_eq]; simp) (by simp), bare_cdOf (by simp)⟩
end Go.AM
namespace Go.AM
open Go Go.Proofs
theorem fewM_fit2 {m : Mo} (h : fewM m 140 = true) : m.Fit := by
  simp [fewM] at h
  exact ⟨by omega, by omega⟩
theorem fewR_fit {r : Ru} (hb : r.Big) (h : fewR r = true) : r.Fit := by
  simp only [fewR, Bool.and_eq_true] at h
  exact ⟨fewG_fit h.1.1.1, fewG_fit h.1.1.2, fewM_fit2 h.1.2, fewM_fit2 h.2, hb.ls, hb.lt, hb.rs, hb.rt⟩
theorem movR_fb {s : Sp} {c : Cd} (hs : SpOk s) (hf : c.Fit) : (movR s c).1.Fit ∧ (movR s c).1.Bare := by
  unfold movR
  split
  · exact nil_fb 0
  · rename_i h1
    split
    · exact nil_fb 0
    · rename_i h2
      split
      · exact nil_fb 0
      · have hk := lft_ok _ c (Nat.lt_succ_self _) hf s hs (validC_zero (Decidable.not_not.1 h1)).2 (Decidable.not_not.1 h2)
        exact ⟨hk.fit, hk.bare⟩
theorem rightR_fb {r : Ru} {c : Cd} (hf : c.Fit) : (rightR r c).1.Fit ∧ (rightR r c).1.Bare := by
  unfold rightR
  split
  · exact nil_fb 0
  · rename_i h
    exact movR_fb (Sp.inv_ok (strR_zero (Decidable.not_not.1 h)).1) hf
theorem lawRight_c (r : Ru) (c : Cd) (hr : r.Big) (hb : c.Big) (tok : Nat → Bool) (nt : Nat) : ∃ tok' nt', DCall Tryz.prog 5 [r.av, c.av] tok nt (B true) tok' nt' := by
  refine ⟨tok, nt, ?_⟩
  intro box nb
  have hfw := few34_c r hr
  have hl := light_c r.lg c hb
  refine sB Tryz.func5 Tryz.ntmps5 ?_
  intro hbox htok
  simp only at hbox htok
  apply AL.start
  try (simp)
  repeat (refine sR ?_; simp)
  refine Stop.of_d (awake34_c _ _) ?_
  simp
  try (simp)
  repeat (refine sR ?_; simp)
  refine Stop.of_d (hfw _ _) ?_
  simp
  cases h1 : fewR r
  · try (simp)
    repeat (refine sR ?_; simp)
    refine sC ?_
    simp
    try (simp)
    repeat (refine sR ?_; simp)
    refine Stop.of_d (awake34_c _ _) ?_
    simp
    try (simp)
    repeat (refine sR ?_; simp)
    refine sT ?_
    try simp only [AU]
    refine ⟨by simp, sF hbox htok (fun _ h => h) (Nat.le_refl _) ?_⟩
    simp [packA]
  · have hrf := fewR_fit hr h1
    try (simp)
    repeat (refine sR ?_; simp)
    refine Stop.of_d (hl _ _) ?_
    simp
    cases h2 : lightB r.lg c
    · try (simp)
      repeat (refine sR ?_; simp)
      refine sC ?_
      simp
      try (simp)
      repeat (refine sR ?_; simp)
      refine Stop.of_d (awake34_c _ _) ?_
      simp
      try (simp)
      repeat (refine sR ?_; simp)
      refine sT ?_
      try simp only [AU]
      refine ⟨by simp, sF hbox htok (fun _ h => h) (Nat.le_refl _) ?_⟩
      simp [packA]
    · obtain ⟨_, hc⟩ := lightB_fit hb h2
      have f1 := rightP_c r c hrf hc
      have f2 := right22_c backOK r c hrf hc
      obtain ⟨g1, g2⟩ := rightR_fb (r := r) hc
      have f3 := same33_c _ (rightR r c).1 (Nat.lt_succ_self _) g1 g2
      generalize rightR r c = L at *
      try (simp)
      repeat (refine sR ?_; simp)
      refine sC ?_
      simp
      try (simp)
      repeat (refine sR ?_; simp)
      refine Stop.of_d (f1 _ _) ?_
      simp
      try (simp)
      repeat (refine sR ?_; simp)
      refine Stop.of_d (f2 _ _) ?_
      simp
      try (simp)
      repeat (refine sR ?_; simp)
      refine Stop.of_d (f3 _ _) ?_
      simp
      try (simp)
      repeat (refine sR ?_; simp)
      refine sT ?_
      try simp only [AU]
      refine ⟨by simp, sF hbox htok (fun _ h => h) (Nat.le_refl _) ?_⟩
      simp [packA]
end Go.AM
namespace Go.AM
open Go Go.ChangeShapes
variable {P : Program}
def Rd (w : World) (cs : List Value) (ds : List D) : Prop := cs.length = ds.length ∧ ∀ i (h1 : i < cs.length) (h2 : i < ds.length), RVd w.cell? (fun _ => True) ds[i] cs[i]
theorem Rd.append {w : World} {cs cs' : List Value} {ds ds' : List D} (h : Rd w cs ds) (k : Rd w cs' ds') : Rd w (cs ++ cs') (ds ++ ds') := by
  refine ⟨by simp [h.1, k.1], fun i h1 h2 => ?_⟩
  by_cases hi : i < cs.length
  · rw [List.getElem_append_left hi, List.getElem_append_left (by rw [← h.1]; exact hi)]
    exact h.2 i hi _
  · have hl := h.1
    rw [List.getElem_append_right (by omega), List.getElem_append_right (by omega)]
    have := k.2 (i - cs.length) (by simp at h1; omega) (by have := k.1; simp at h1; omega)
    simpa [hl] using this
theorem Rd.one {w : World} {c : Value} {d : D} (h : RVd w.cell? (fun _ => True) d c) : Rd w [c] [d] := ⟨rfl, fun i h1 h2 => by
  have : i = 0 := by simpa using h1
  subst this
  exact h⟩
def Light {H : Type} (P : Program) (T : TypeId) (d : DataW H) : Prop := (d.weights P T).all (· ≤ reachBytes) = true
structure Rdr (P : Program) (T : TypeId) (α : Type) where
  enc : α → List D
  ok : α → Prop
  len : ∀ x, (enc x).length = P.cellsOf T
  sound : ∀ {H : Type} (e : TypeId × Value → H) (w : World) (base : Nat) (spare : Nat → Bool) (held : Bool) (fuel : Nat) (cs : List Value) (x : DataW H × List MemPlace),
    DataW.trod e P w base spare held fuel T cs = some x → ∃ y, Rd w cs (enc y) ∧ (Light P T x.1 → ok y)
def Rdr.int {T : TypeId} {k : IntKind} (h : P.underlying T = some (.int k)) (hc : P.cellsOf T = 1) : Rdr P T Int where
  enc n := [.raw (.int k n)]
  ok n := (Lit.int k n).wf = true
  len _ := by simp [hc]
  sound e w base spare held fuel cs x hx := by
    cases fuel with
    | zero => simp [DataW.trod] at hx
    | succ n =>
      unfold DataW.trod at hx
      rw [h] at hx
      split at hx <;> simp_all
      rename_i k' n' _
      exact ⟨n', Rd.one (.raw rfl), fun _ => hx.1.2⟩
theorem cells_spec {w : World} {base : Nat} {a : Addr} {n : Nat} {l : List Value} (h : w.cells? base a n = some l) : l.length = n ∧ ∀ i (hi : i < l.length), w.cell? (a.add i) = some l[i] := by
  unfold World.cells? at h
  split at h
  · have h1 : l.length = n := by have := mapM_some_length h; simpa using this
    refine ⟨h1, fun i hi => ?_⟩
    have hin : i < n := by omega
    have := mapM_some_get h i i (by simp [hin])
    rw [this]
    exact List.getElem?_eq_getElem hi
  · cases h
theorem light_slice {H : Type} {T E : TypeId} (h : P.underlying T = some (.slice E)) {elems rest : List (DataW H)} (hl : Light P T (.slice elems rest)) : elems.length * P.bytesOf E ≤ reachBytes ∧ ∀ d ∈ elems, Light P E d := by
  unfold Light at hl ⊢
  simp only [DataW.weights, h, List.all_cons, List.all_append, Bool.and_eq_true, decide_eq_true_eq] at hl
  refine ⟨Nat.le_trans (Nat.mul_le_mul_right _ (Nat.le_add_right _ _)) hl.1, ?_⟩
  have key : ∀ l : List (DataW H), (DataW.weightsAll P E l).all (· ≤ reachBytes) = true → ∀ d ∈ l, (d.weights P E).all (· ≤ reachBytes) = true := by
    intro l
    induction l with
    | nil => intro _ d hd; simp at hd
    | cons x l ih =>
      intro hx d hd
      simp only [DataW.weightsAll, List.all_append, Bool.and_eq_true] at hx
      rcases List.mem_cons.1 hd with rfl | hd
      · exact hx.1
      · exact ih hx.2 d hd
  exact key elems hl.2.1
def Rdr.slice {T E : TypeId} {α : Type} (r : Rdr P E α) (h : P.underlying T = some (.slice E)) (hc : P.cellsOf T = 1) : Rdr P T (List α) where
  enc l := [.sl (P.cellsOf E) (l.map r.enc)]
  ok l := (∀ x ∈ l, r.ok x) ∧ l.length * P.bytesOf E ≤ reachBytes
  len _ := by simp [hc]
  sound e w base spare held fuel cs x hx := by
    rcases DataW.trod_slice h hx with ⟨rfl, rfl⟩ | ⟨a, len, cap, elems, rest, n, rfl, rfl, rfl, hb, hl, hm, hel, hat, _⟩
    · exact ⟨[], Rd.one (.sl (es := []) (fun _ _ => default) (Nat.le_refl _) (by decide) (by simp) (by simp) (by simp) (by simp)), fun _ => ⟨by simp, by simp⟩⟩
    · have key : ∀ i (hi : i < elems.length), ∃ cs y, cs.length = P.cellsOf E ∧ (∀ j (hj : j < cs.length), w.cell? (a.add (i * P.cellsOf E + j)) = some cs[j]) ∧ Rd w cs (r.enc y) ∧ (Light P E elems[i].1 → r.ok y) := by
        intro i hi
        have h1 := hat i (by omega)
        have h2 : elems[i]? = some elems[i] := List.getElem?_eq_getElem hi
        rw [h2, Option.bind_eq_some_iff] at h1
        obtain ⟨cs, hcs, htr⟩ := h1
        obtain ⟨hcl, hcc⟩ := cells_spec hcs
        obtain ⟨y, hy, hok⟩ := r.sound e w base spare held n cs _ htr
        refine ⟨cs, y, hcl, fun j hj => ?_, hy, hok⟩
        rw [← Addr.add_add]
        exact hcc j hj
      have pick : ∀ m, m ≤ elems.length → ∃ ys : List α, ys.length = m ∧ (∀ i (hi : i < ys.length) (hi2 : i < elems.length), ∃ cs, cs.length = P.cellsOf E ∧ (∀ j (hj : j < cs.length), w.cell? (a.add (i * P.cellsOf E + j)) = some cs[j]) ∧ Rd w cs (r.enc ys[i]) ∧ (Light P E elems[i].1 → r.ok ys[i])) := by
        intro m
        induction m with
        | zero => intro _; exact ⟨[], rfl, fun i hi => by simp at hi⟩
        | succ m ih =>
          intro hm'
          obtain ⟨ys, hys, hall⟩ := ih (by omega)
          obtain ⟨cs, y, g1, g2, g3, g4⟩ := key m (by omega)
          refine ⟨ys ++ [y], by simp [hys], fun i hi hi2 => ?_⟩
          by_cases him : i < ys.length
          · rw [List.getElem_append_left him]
            exact hall i him hi2
          · have : i = m := by simp at hi; omega
            subst this
            have e1 : (ys ++ [y])[i] = y := by
              rw [List.getElem_append_right (by omega)]
              simp
            rw [e1]
            exact ⟨cs, g1, g2, g3, g4⟩
      obtain ⟨ys, hys, hall⟩ := pick elems.length (Nat.le_refl _)
      refine ⟨ys, Rd.one ?_, fun hli => ?_⟩
      · have hlen : len = ys.length := by omega
        subst hlen
        have hml : ys.length = (ys.map r.enc).length := by simp
        rw [hml]
        refine .sl (fun i j => (w.cell? (a.add (i * P.cellsOf E + j))).getD default) (by simpa using hl) hm (fun e he => ?_) (fun _ => ⟨a, rfl⟩) (fun a' ha' i j hi hj => ?_) (fun i j hi hj => ?_)
        · obtain ⟨y, _, rfl⟩ := List.mem_map.1 he
          exact r.len y
        · cases ha'
          obtain ⟨cs, g1, g2, _⟩ := hall i (by simpa using hi) (by simp at hi; omega)
          rw [g2 j (by omega)]
          exact ⟨trivial, rfl⟩
        · obtain ⟨cs, g1, g2, g3, _⟩ := hall i (by simpa using hi) (by simp at hi; omega)
          simp only [List.getElem_map] at hj ⊢
          have hjc : j < cs.length := by rw [g3.1]; exact hj
          rw [g2 j hjc]
          exact g3.2 j hjc hj
      · obtain ⟨w1, w2⟩ := light_slice h hli
        refine ⟨fun y hy => ?_, by simpa [hys] using w1⟩
        obtain ⟨i, hi, rfl⟩ := List.getElem_of_mem hy
        obtain ⟨_, _, _, _, h4⟩ := hall i hi (by omega)
        exact h4 (w2 _ (List.mem_map.2 ⟨_, List.getElem_mem _, rfl⟩))
def Rdr.map {T : TypeId} {α β : Type} (r : Rdr P T α) (f : α → β) (enc : β → List D) (ok : β → Prop) (he : ∀ x, enc (f x) = r.enc x) (hok : ∀ x, r.ok x → ok (f x)) (hl : ∀ y, (enc y).length = P.cellsOf T) : Rdr P T β where
  enc := enc
  ok := ok
  len := hl
  sound e w base spare held fuel cs x hx := by
    obtain ⟨y, h1, h2⟩ := r.sound e w base spare held fuel cs x hx
    exact ⟨f y, by rw [he]; exact h1, fun hl => hok y (h2 hl)⟩
def Rdr.sliceN {T E : TypeId} {α : Type} (r : Rdr P E α) (n : Nat) (h : P.underlying T = some (.slice E)) (hc : P.cellsOf T = 1) (hn : P.cellsOf E = n) : Rdr P T (List α) where
  enc l := [.sl n (l.map r.enc)]
  ok l := (∀ x ∈ l, r.ok x) ∧ l.length * P.bytesOf E ≤ reachBytes
  len _ := by simp [hc]
  sound := by
    subst hn
    exact (Rdr.slice r h hc).sound
theorem list2 {α : Type} {l : List α} (h : l.length = 2) : l = [l[0]'(by omega), l[1]'(by omega)] := by
  match l, h with
  | [p, q], _ => rfl
theorem list3 {α : Type} {l : List α} (h : l.length = 3) : l = [l[0]'(by omega), l[1]'(by omega), l[2]'(by omega)] := by
  match l, h with
  | [p, q, r], _ => rfl
def Rdr.struct2 {T A B : TypeId} {α β : Type} (r : Rdr P A α) (s : Rdr P B β) {f0 f1 : Field} (h : P.underlying T = some (.struct #[f0, f1])) (hA : f0.type = A) (hB : f1.type = B) (h0 : f0.offset = 0) (h1 : f1.offset = P.cellsOf A)
    (hc : P.cellsOf T = P.cellsOf A + P.cellsOf B) : Rdr P T (α × β) where
  enc x := r.enc x.1 ++ s.enc x.2
  ok x := r.ok x.1 ∧ s.ok x.2
  len x := by simp [r.len, s.len, hc]
  sound e w base spare held fuel cs x hx := by
    obtain ⟨xs, n, rfl, rfl, hl, hxs, hat⟩ := DataW.trod_struct h hx
    have hxs' : xs.length = 2 := hxs
    have g0 := hat 0 f0 rfl
    have g1 := hat 1 f1 rfl
    have e0 : xs[0]? = some (xs[0]'(by omega)) := List.getElem?_eq_getElem (by omega)
    have e1 : xs[1]? = some (xs[1]'(by omega)) := List.getElem?_eq_getElem (by omega)
    rw [e0, h0, hA] at g0
    rw [e1, h1, hB] at g1
    obtain ⟨y, k1, k2⟩ := r.sound e w base spare held n _ _ g0
    obtain ⟨z, m1, m2⟩ := s.sound e w base spare held n _ _ g1
    refine ⟨(y, z), ?_, fun hli => ?_⟩
    rotate_left
    · unfold Light at hli k2 m2
      have e2 : xs = [xs[0]'(by omega), xs[1]'(by omega)] := list2 hxs'
      rw [e2] at hli
      simp only [List.map_cons, List.map_nil, DataW.weights, h, DataW.weightsEach, hA, hB, List.all_append, Bool.and_eq_true] at hli
      exact ⟨k2 hli.1, m2 hli.2.1⟩
    have hcs : cs = (cs.drop 0).take (P.cellsOf A) ++ (cs.drop (P.cellsOf A)).take (P.cellsOf B) := by
      have : (cs.drop (P.cellsOf A)).take (P.cellsOf B) = cs.drop (P.cellsOf A) := List.take_of_length_le (by simp; omega)
      rw [this, List.drop_zero, List.take_append_drop]
    rw [hcs]
    exact k1.append m1
def Rdr.struct3 {T A B C : TypeId} {α β γ : Type} (r : Rdr P A α) (s : Rdr P B β) (t : Rdr P C γ) {f0 f1 f2 : Field} (h : P.underlying T = some (.struct #[f0, f1, f2])) (hA : f0.type = A) (hB : f1.type = B) (hC : f2.type = C)
    (h0 : f0.offset = 0) (h1 : f1.offset = P.cellsOf A) (h2 : f2.offset = P.cellsOf A + P.cellsOf B) (hc : P.cellsOf T = P.cellsOf A + P.cellsOf B + P.cellsOf C) : Rdr P T (α × β × γ) where
  enc x := r.enc x.1 ++ (s.enc x.2.1 ++ t.enc x.2.2)
  ok x := r.ok x.1 ∧ s.ok x.2.1 ∧ t.ok x.2.2
  len x := by simp [r.len, s.len, t.len, hc]; omega
  sound e w base spare held fuel cs x hx := by
    obtain ⟨xs, n, rfl, rfl, hl, hxs, hat⟩ := DataW.trod_struct h hx
    have hxs' : xs.length = 3 := hxs
    have g0 := hat 0 f0 rfl
    have g1 := hat 1 f1 rfl
    have g2 := hat 2 f2 rfl
    have e0 : xs[0]? = some (xs[0]'(by omega)) := List.getElem?_eq_getElem (by omega)
    have e1 : xs[1]? = some (xs[1]'(by omega)) := List.getElem?_eq_getElem (by omega)
    have e2 : xs[2]? = some (xs[2]'(by omega)) := List.getElem?_eq_getElem (by omega)
    rw [e0, h0, hA] at g0
    rw [e1, h1, hB] at g1
    rw [e2, h2, hC] at g2
    obtain ⟨y, k1, k2⟩ := r.sound e w base spare held n _ _ g0
    obtain ⟨z, m1, m2⟩ := s.sound e w base spare held n _ _ g1
    obtain ⟨q, p1, p2⟩ := t.sound e w base spare held n _ _ g2
    refine ⟨(y, z, q), ?_, fun hli => ?_⟩
    rotate_left
    · unfold Light at hli k2 m2 p2
      have e2 : xs = [xs[0]'(by omega), xs[1]'(by omega), xs[2]'(by omega)] := list3 hxs'
      rw [e2] at hli
      simp only [List.map_cons, List.map_nil, DataW.weights, h, DataW.weightsEach, hA, hB, hC, List.all_append, Bool.and_eq_true] at hli
      exact ⟨k2 hli.1, m2 hli.2.1, p2 hli.2.2.1⟩
    have hcs : cs = (cs.drop 0).take (P.cellsOf A) ++ ((cs.drop (P.cellsOf A)).take (P.cellsOf B) ++ (cs.drop (P.cellsOf A + P.cellsOf B)).take (P.cellsOf C)) := by
      have : (cs.drop (P.cellsOf A + P.cellsOf B)).take (P.cellsOf C) = cs.drop (P.cellsOf A + P.cellsOf B) := List.take_of_length_le (by simp; omega)
      rw [this, ← List.drop_drop, List.take_append_drop, List.drop_zero, List.take_append_drop]
    rw [hcs]
    exact k1.append (m1.append p1)
def G0 : Gh := ⟨fun _ => none, fun _ => none, fun _ => .whole, 0⟩
def m0 : AMem := ⟨fun _ => none, 0, fun _ => false, 0⟩
theorem G0_ps (a : Addr) : G0.ps a := trivial
theorem relM_start (W : World) : RelM G0 m0 W := by
  constructor
  case box => intro k rows b sz h; cases h
  case nobox => intro k _; rfl
  case inj => intro k k' b sz sz' h; cases h
  case nb => intro k _; rfl
  case nt => rfl
  case toks => intro t h; cases h
  case tokb => intro t g h; cases h
  case tinj => intro t t' g h; cases h
  case tnt => intro t x h; cases h
  case fresh => intro b _; rfl
theorem RVd.start {W : World} {d : D} {v : Value} (h : RVd W.cell? (fun _ => True) d v) : RVd W.cell? G0.ps d v := h.mono fun a u _ hc => ⟨G0_ps a, hc⟩
theorem Rdr.agg {T : TypeId} {α : Type} (r : Rdr P T α) {W : World} {base base' : Nat} {sp : Nat → Bool} {held : Bool} {H : Type} {enc : TypeId × Value → H} {v : Value} {d : DataW H} {p : List MemPlace}
    (hs : aggT P T = some true) (hv : Value.okWide P W .any base T v) (h : DataW.Trod enc P W base' sp held T v d p) (hli : Light P T d) : ∃ y, r.ok y ∧ RV G0 W (.agg ((r.enc y).map .d)) v := by
  have hcs : ∃ cs, v = .agg cs := by
    unfold aggT at hs
    unfold Value.okWide at hv
    cases hu : P.underlying T with
    | none => rw [hu] at hs; simp at hs
    | some u =>
      rw [hu] at hs hv
      cases u <;> simp at hs hv <;> exact ⟨_, hv.choose_spec.1⟩
  obtain ⟨cs, rfl⟩ := hcs
  obtain ⟨fuel, h⟩ := h
  obtain ⟨y, ⟨h1, h2⟩, hok⟩ := r.sound enc W base' sp held fuel _ _ h
  refine ⟨y, hok hli, ?_⟩
  simp only [Value.cells] at h1 h2
  have := RV.agg (G := G0) (w := W) (cs := (r.enc y).map .d) (vs := cs.toList) (by simp [h1]) (fun i g1 g2 => by
    simp only [List.getElem_map]
    exact .d (h2 i g2 (by simpa using g1)).start) (fun v hv => by
    obtain ⟨i, hi, rfl⟩ := List.getElem_of_mem hv
    exact (h2 i hi (by omega)).one)
  simpa using this
theorem Rdr.cell {T : TypeId} {α : Type} (r : Rdr P T α) {W : World} {base base' : Nat} {sp : Nat → Bool} {held : Bool} {H : Type} {enc : TypeId × Value → H} {v : Value} {d : DataW H} {p : List MemPlace} (f : α → D)
    (hs : aggT P T = some false) (hf : ∀ y, r.enc y = [f y]) (hv : Value.okWide P W .any base T v) (h : DataW.Trod enc P W base' sp held T v d p) (hli : Light P T d) : ∃ y, r.ok y ∧ RV G0 W (.d (f y)) v := by
  obtain ⟨fuel, h⟩ := h
  obtain ⟨y, ⟨h1, h2⟩, hok⟩ := r.sound enc W base' sp held fuel _ _ h
  refine ⟨y, hok hli, ?_⟩
  rw [hf] at h1
  have hcs : v.cells.toList = [v] := by
    cases v with
    | agg cs =>
      exfalso
      unfold aggT at hs
      unfold Value.okWide Cell.okWide Cell.ok at hv
      cases hu : P.underlying T with
      | none => rw [hu] at hs; simp at hs
      | some u =>
        rw [hu] at hs hv
        cases u <;> simp_all
    | _ => rfl
  have := h2 0 (by rw [h1]; simp) (by rw [hf]; simp)
  simp only [hf, List.getElem_cons_zero] at this
  have e : v.cells.toList[0]'(by rw [h1]; simp) = v := by simp [hcs]
  rw [e] at this
  exact .d this.start
theorem light_arg {H : Type} {ts : List TypeId} {ds : List (DataW H)} (hz : (DataW.weightsEach P ts ds).all (· ≤ reachBytes) = true) {j : Nat} {T : TypeId} {d : DataW H} (ht : ts[j]? = some T) (hd : ds[j]? = some d) : Light P T d :=
  List.all_eq_true.2 fun x hx => List.all_eq_true.1 hz x (DataW.weights_mem_each ht hd x hx)
theorem arg_agg {ps : Array TypeId} {args : Array Value} {W : World} {base base' : Nat} {sp : Nat → Bool} {held : Bool} {H : Type} {enc : TypeId × Value → H} (hval : ∀ (j : Nat) t v, ps[j]? = some t → args[j]? = some v → Value.okWide P W .any base t v)
    (j : Nat) (T : TypeId) (v : Value) (hp : ps[j]? = some T) (ha : args[j]? = some v) {α : Type} (r : Rdr P T α) {d : DataW H} {p : List MemPlace} (hs : aggT P T = some true) (h : DataW.Trod enc P W base' sp held T v d p) (hli : Light P T d) :
    ∃ y, r.ok y ∧ RV G0 W (.agg ((r.enc y).map .d)) v := r.agg hs (hval j T v hp ha) h hli
theorem le_old {W W' : World} {G' : Gh} (h : Le G0 W G' W') (b : Nat) (hb : b < W.heap.size) : W'.heap[b]? = W.heap[b]? := (h.whole b hb rfl).2
theorem le_kept {W W' : World} {G' : Gh} (h : Le G0 W G' W') (may : MemPlace → Prop) : W.keptBut W' may := by
  refine ⟨h.os, h.output, fun i hi => ?_⟩
  rw [le_old h i hi]
  split
  · rename_i c t fr c' t' fr' e1 e2
    rw [e1] at e2
    cases e2
    exact ⟨rfl, rfl, rfl, fun _ _ => rfl⟩
  · rename_i e1 e2
    rw [e1] at e2
    cases e2
    exact .inr ⟨rfl, rfl⟩
  · rfl
theorem le_same {W W' : World} {G' : Gh} (h : Le G0 W G' W') {p : MemPlace} (hp : p.block < W.heap.size) : W.sameAt W' p := by
  cases p with
  | cell b off => exact World.cell?_of_block (w := W) (a := ⟨b, off, none⟩) (le_old h b hp)
  | map b => exact le_old h b hp
theorem trodAll_stays {H : Type} {enc : TypeId × Value → H} {W W' : World} {T : TypeId → Prop} {sp' : Nat → Bool} (K : Kids P T) (hsz : ∀ {t e : TypeId}, T t → P.underlying t = some (.slice e) → 0 < P.cellsOf e) :
    ∀ {ts : List TypeId} {vs : List Value} {ds : List (DataW H)} {ps : List MemPlace}, (∀ t ∈ ts, T t) → DataW.TrodAll enc P W 0 (fun _ => true) true ts vs ds ps → (∀ p ∈ ps, W.sameAt W' p) → (∀ p ∈ ps, sp' p.block = true) →
    DataW.TrodAll enc P W' 0 sp' true ts vs ds ps
  | [], [], [], _, _, h, _, _ => h
  | t :: ts, v :: vs, d :: ds, _, hT, ⟨p, q, ⟨n, hn⟩, h2, e⟩, h3, h4 => by
    subst e
    exact ⟨p, q, ⟨n, DataW.trod_stays K hsz (fun h => by cases h) (hT t (by simp)) hn (fun x hx => h3 x (by simp [hx])) (fun x hx => h4 x (by simp [hx]))⟩,
      trodAll_stays K hsz (fun t ht => hT t (by simp [ht])) h2 (fun x hx => h3 x (by simp [hx])) (fun x hx => h4 x (by simp [hx])), rfl⟩
theorem law_of {f : FuncId} {fn : Func} {s : ChangeSpec} {H : Type} {enc : TypeId × Value → H} {W : World} {args : Array Value} {ds : List (DataW H)} {before : List MemPlace} {avs : List AV} {tok' : Nat → Bool} {nt' : Nat}
    (hl : laidOutB P = true) (hm : mapsRowed P = true) (hz : ((List.range P.types.size).all fun t => match P.underlying t with | some (.slice e) => decide (0 < P.cellsOf e) | _ => true) = true)
    (hpar : fn.params.all (· < P.types.size) = true) {tb : TypeId} (hres : fn.resultTypes = #[tb]) (hb : P.underlying tb = some .bool)
    (hvars : s.vars = []) (hfn : s.fn H ds = { results := [.lit (.bool true)], args := ds })
    (hW : DataW.Whole enc P fn.params.toList s.vars false W args.toList ds [] before) (hr : RVs G0 W avs args.toList) (hc : DCall P f avs (fun _ => false) 0 (B true) tok' nt') :
    Calls P f args W fun e W' => ∃ v, e = .returned v ∧ s.post enc P fn false true false false W args v W' := by
  have hcall := (hc (fun _ => none) 0).2 G0 W args.toList (relM_start W) hr
  simp only [Array.toArray_toList] at hcall
  refine hcall.mono ?_
  rintro e W' ⟨v, av, m', G', rfl, ⟨rfl, rfl⟩, _, _, hv, hle, _⟩
  cases hv with
  | d hv =>
    cases hv with
    | raw =>
      refine ⟨_, rfl, ?_⟩
      have hlt := hW.lt
      have hWW := hW
      obtain ⟨p, q, hA, hV, rfl, hfz, hnd⟩ := hW
      rw [hvars] at hV
      obtain ⟨_, rfl⟩ := trodVars_none hV
      simp only [List.append_nil] at hlt hfz hWW ⊢
      have hT : ∀ t ∈ fn.params.toList, t < P.types.size := fun t ht => by
        have := Array.all_eq_true_iff_forall_mem.1 hpar t (by simpa using ht)
        simpa using this
      have hsz : ∀ {t e : TypeId}, t < P.types.size → P.underlying t = some (.slice e) → 0 < P.cellsOf e := by
        intro t e ht hu
        have := List.all_eq_true.1 hz t (List.mem_range.2 ht)
        rw [hu] at this
        simpa using this
      have hargs : ∀ sp : Nat → Bool, (∀ x ∈ p, sp x.block = true) → DataW.TrodAll enc P W' 0 sp true fn.params.toList args.toList ds p := fun sp hsp =>
        trodAll_stays (kids_rows hl hm) hsz hT hA (fun x hx => le_same hle (hlt x hx)) hsp
      have hnat : (Value.bool true).resultList fn.resultTypes.size = [.bool true] := by rw [hres]; rfl
      have hresb : ∀ (b : Nat) (sp : Nat → Bool) (hd : Bool), DataW.TrodAll enc P W' b sp hd fn.resultTypes.toList ((Value.bool true).resultList fn.resultTypes.size) [.lit (.bool true)] [] := fun b sp hd => by
        rw [hnat, hres]
        exact trodAll_mk1 ⟨1, by simp [DataW.trod, hb, Value.cells]⟩
      have hfn' : s.fn H (ds ++ []) = { results := [.lit (.bool true)], args := ds } := by rw [List.append_nil]; exact hfn
      refine ⟨ds, [], p, [], p, [], hWW, ?_, ?_, ?_, World.keptBut_mono (fun _ f => f.elim) (le_kept hle fun _ => False), fun h => by cases h⟩
      · rw [hfn']; exact hresb _ _ _
      · rw [hfn']; exact hargs _ fun x hx => by simpa using hlt x hx
      · rw [hfn', hvars]; exact rfl
end Go.AM
namespace Go.AM
open Go Go.Proofs
theorem own0 : ownKnob Tryz.prog.godebug = none := by kernel_rfl
theorem laidOut0 : laidOutB Tryz.prog = true := by kernel_rfl
theorem mapsRowed0 : mapsRowed Tryz.prog = true := by kernel_rfl
theorem slices0 : ((List.range Tryz.prog.types.size).all fun t => match Tryz.prog.underlying t with | some (.slice e) => decide (0 < Tryz.prog.cellsOf e) | _ => true) = true := by kernel_rfl
def rdInt : Rdr Tryz.prog 3 Int := Rdr.int (k := .i64) Tryz.underlying3 (by kernel_rfl)
def rdInts : Rdr Tryz.prog 22 (List Int) := rdInt.sliceN 1 Tryz.underlying22 (by kernel_rfl) (by kernel_rfl)
def rdEdge0 : Rdr Tryz.prog 133 (Int × Int × Int) := Rdr.struct3 rdInt rdInt rdInt Tryz.underlying133 rfl rfl rfl rfl (by kernel_rfl) (by kernel_rfl) (by kernel_rfl)
def rdEdge : Rdr Tryz.prog 133 E := rdEdge0.map (fun x => ⟨x.1, x.2.1, x.2.2⟩) E.cells (fun _ => True) (fun _ => rfl) (fun _ _ => trivial) (fun _ => by kernel_rfl)
def rdEdges : Rdr Tryz.prog 23 (List E) := rdEdge.sliceN 3 Tryz.underlying23 (by kernel_rfl) (by kernel_rfl)
def rdGraph0 : Rdr Tryz.prog 25 (List Int × List E) := Rdr.struct2 rdInts rdEdges Tryz.underlying25 rfl rfl rfl (by kernel_rfl) (by kernel_rfl)
end Go.AM
namespace Go.AM
open Go Go.Proofs Go.ChangeShapes
structure RdF (P : Program) (T : TypeId) {α : Type} (en : α → List D) (ok : α → Prop) (n : Nat) : Prop where
  sound : ∀ {H : Type} (e : TypeId × Value → H) (w : World) (base : Nat) (spare : Nat → Bool) (held : Bool) (cs : List Value) (x : DataW H × List MemPlace),
    DataW.trod e P w base spare held n T cs = some x → ∃ y, Rd w cs (en y) ∧ (Light P T x.1 → ok y)
theorem Rdr.f {P : Program} {T : TypeId} {α : Type} (r : Rdr P T α) (n : Nat) : RdF P T r.enc r.ok n := ⟨fun e w base spare held cs x hx => r.sound e w base spare held n cs x hx⟩
theorem RdF.zero {P : Program} {T : TypeId} {α : Type} {en : α → List D} {ok : α → Prop} : RdF P T en ok 0 := ⟨fun e w base spare held cs x hx => by simp [DataW.trod] at hx⟩
def Rdr.ofF {P : Program} {T : TypeId} {α : Type} (en : α → List D) (ok : α → Prop) (len : ∀ x, (en x).length = P.cellsOf T) (h : ∀ n, RdF P T en ok n) : Rdr P T α := ⟨en, ok, len, fun e w base spare held n cs x hx => (h n).sound e w base spare held cs x hx⟩
theorem RdF.slice {P : Program} {T E : TypeId} {α : Type} {en : α → List D} {ok : α → Prop} {n : Nat} (r : RdF P E en ok n) (k : Nat) (hk : P.cellsOf E = k) (hlen : ∀ x, (en x).length = k) (h : P.underlying T = some (.slice E)) :
    RdF P T (fun l : List α => [.sl k (l.map en)]) (fun l => (∀ x ∈ l, ok x) ∧ l.length * P.bytesOf E ≤ reachBytes) (n + 1) := by
  subst hk
  constructor
  intro H e w base spare held cs x hx
  rcases DataW.trod_slice h hx with ⟨rfl, rfl⟩ | ⟨a, len, cap, elems, rest, n', hn', rfl, rfl, hb, hl, hm, hel, hat, _⟩
  · exact ⟨[], Rd.one (.sl (es := []) (fun _ _ => default) (Nat.le_refl _) (by decide) (by simp) (by simp) (by simp) (by simp)), fun _ => ⟨by simp, by simp⟩⟩
  · obtain rfl : n' = n := by omega
    have key : ∀ i (hi : i < elems.length), ∃ cs y, cs.length = P.cellsOf E ∧ (∀ j (hj : j < cs.length), w.cell? (a.add (i * P.cellsOf E + j)) = some cs[j]) ∧ Rd w cs (en y) ∧ (Light P E elems[i].1 → ok y) := by
      intro i hi
      have h1 := hat i (by omega)
      have h2 : elems[i]? = some elems[i] := List.getElem?_eq_getElem hi
      rw [h2, Option.bind_eq_some_iff] at h1
      obtain ⟨cs, hcs, htr⟩ := h1
      obtain ⟨hcl, hcc⟩ := cells_spec hcs
      obtain ⟨y, hy, hok⟩ := r.sound e w base spare held cs _ htr
      refine ⟨cs, y, hcl, fun j hj => ?_, hy, hok⟩
      rw [← Addr.add_add]
      exact hcc j hj
    have pick : ∀ m, m ≤ elems.length → ∃ ys : List α, ys.length = m ∧ (∀ i (hi : i < ys.length) (hi2 : i < elems.length), ∃ cs, cs.length = P.cellsOf E ∧ (∀ j (hj : j < cs.length), w.cell? (a.add (i * P.cellsOf E + j)) = some cs[j]) ∧ Rd w cs (en ys[i]) ∧ (Light P E elems[i].1 → ok ys[i])) := by
      intro m
      induction m with
      | zero => intro _; exact ⟨[], rfl, fun i hi => by simp at hi⟩
      | succ m ih =>
        intro hm'
        obtain ⟨ys, hys, hall⟩ := ih (by omega)
        obtain ⟨cs, y, g1, g2, g3, g4⟩ := key m (by omega)
        refine ⟨ys ++ [y], by simp [hys], fun i hi hi2 => ?_⟩
        by_cases him : i < ys.length
        · rw [List.getElem_append_left him]
          exact hall i him hi2
        · have : i = m := by simp at hi; omega
          subst this
          have e1 : (ys ++ [y])[i] = y := by
            rw [List.getElem_append_right (by omega)]
            simp
          rw [e1]
          exact ⟨cs, g1, g2, g3, g4⟩
    obtain ⟨ys, hys, hall⟩ := pick elems.length (Nat.le_refl _)
    refine ⟨ys, Rd.one ?_, fun hli => ?_⟩
    · have hlen' : len = ys.length := by omega
      subst hlen'
      have hml : ys.length = (ys.map en).length := by simp
      rw [hml]
      refine .sl (fun i j => (w.cell? (a.add (i * P.cellsOf E + j))).getD default) (by simpa using hl) hm (fun e he => ?_) (fun _ => ⟨a, rfl⟩) (fun a' ha' i j hi hj => ?_) (fun i j hi hj => ?_)
      · obtain ⟨y, _, rfl⟩ := List.mem_map.1 he
        exact hlen y
      · cases ha'
        obtain ⟨cs, g1, g2, _⟩ := hall i (by simpa using hi) (by simp at hi; omega)
        rw [g2 j (by omega)]
        exact ⟨trivial, rfl⟩
      · obtain ⟨cs, g1, g2, g3, _⟩ := hall i (by simpa using hi) (by simp at hi; omega)
        simp only [List.getElem_map] at hj ⊢
        have hjc : j < cs.length := by rw [g3.1]; exact hj
        rw [g2 j hjc]
        exact g3.2 j hjc hj
    · obtain ⟨w1, w2⟩ := light_slice h hli
      refine ⟨fun y hy => ?_, by simpa [hys] using w1⟩
      obtain ⟨i, hi, rfl⟩ := List.getElem_of_mem hy
      obtain ⟨_, _, _, _, h4⟩ := hall i hi (by omega)
      exact h4 (w2 _ (List.mem_map.2 ⟨_, List.getElem_mem _, rfl⟩))
theorem list4 {α : Type} {l : List α} (h : l.length = 4) : l = [l[0]'(by omega), l[1]'(by omega), l[2]'(by omega), l[3]'(by omega)] := by
  match l, h with
  | [p, q, r, s], _ => rfl
theorem RdF.struct4 {P : Program} {T A B C E : TypeId} {α β γ δ : Type} {ea : α → List D} {eb : β → List D} {ec : γ → List D} {ed : δ → List D} {oa : α → Prop} {ob : β → Prop} {oc : γ → Prop} {od : δ → Prop} {n : Nat}
    (r : RdF P A ea oa n) (s : RdF P B eb ob n) (t : RdF P C ec oc n) (u : RdF P E ed od n) {f0 f1 f2 f3 : Field} (h : P.underlying T = some (.struct #[f0, f1, f2, f3])) (hA : f0.type = A) (hB : f1.type = B) (hC : f2.type = C) (hE : f3.type = E)
    (h0 : f0.offset = 0) (h1 : f1.offset = P.cellsOf A) (h2 : f2.offset = P.cellsOf A + P.cellsOf B) (h3 : f3.offset = P.cellsOf A + P.cellsOf B + P.cellsOf C) (hc : P.cellsOf T = P.cellsOf A + P.cellsOf B + P.cellsOf C + P.cellsOf E) :
    RdF P T (fun x : α × β × γ × δ => ea x.1 ++ (eb x.2.1 ++ (ec x.2.2.1 ++ ed x.2.2.2))) (fun x => oa x.1 ∧ ob x.2.1 ∧ oc x.2.2.1 ∧ od x.2.2.2) (n + 1) := by
  constructor
  intro H e w base spare held cs x hx
  obtain ⟨xs, n', hn', rfl, hl, hxs, hat⟩ := DataW.trod_struct h hx
  obtain rfl : n' = n := by omega
  have hxs' : xs.length = 4 := hxs
  have g0 := hat 0 f0 rfl
  have g1 := hat 1 f1 rfl
  have g2 := hat 2 f2 rfl
  have g3 := hat 3 f3 rfl
  have e0 : xs[0]? = some (xs[0]'(by omega)) := List.getElem?_eq_getElem (by omega)
  have e1 : xs[1]? = some (xs[1]'(by omega)) := List.getElem?_eq_getElem (by omega)
  have e2 : xs[2]? = some (xs[2]'(by omega)) := List.getElem?_eq_getElem (by omega)
  have e3 : xs[3]? = some (xs[3]'(by omega)) := List.getElem?_eq_getElem (by omega)
  rw [e0, h0, hA] at g0
  rw [e1, h1, hB] at g1
  rw [e2, h2, hC] at g2
  rw [e3, h3, hE] at g3
  obtain ⟨y, k1, k2⟩ := r.sound e w base spare held _ _ g0
  obtain ⟨z, m1, m2⟩ := s.sound e w base spare held _ _ g1
  obtain ⟨q, p1, p2⟩ := t.sound e w base spare held _ _ g2
  obtain ⟨v, q1, q2⟩ := u.sound e w base spare held _ _ g3
  refine ⟨(y, z, q, v), ?_, fun hli => ?_⟩
  rotate_left
  · unfold Light at hli k2 m2 p2 q2
    have e2 : xs = [xs[0]'(by omega), xs[1]'(by omega), xs[2]'(by omega), xs[3]'(by omega)] := list4 hxs'
    rw [e2] at hli
    simp only [List.map_cons, List.map_nil, DataW.weights, h, DataW.weightsEach, hA, hB, hC, hE, List.all_append, Bool.and_eq_true] at hli
    exact ⟨k2 hli.1, m2 hli.2.1, p2 hli.2.2.1, q2 hli.2.2.2.1⟩
  have hcs : cs = (cs.drop 0).take (P.cellsOf A) ++ ((cs.drop (P.cellsOf A)).take (P.cellsOf B) ++ ((cs.drop (P.cellsOf A + P.cellsOf B)).take (P.cellsOf C) ++ (cs.drop (P.cellsOf A + P.cellsOf B + P.cellsOf C)).take (P.cellsOf E))) := by
    have : (cs.drop (P.cellsOf A + P.cellsOf B + P.cellsOf C)).take (P.cellsOf E) = cs.drop (P.cellsOf A + P.cellsOf B + P.cellsOf C) := List.take_of_length_le (by simp; omega)
    rw [this]
    have e3 := List.take_append_drop (P.cellsOf C) (cs.drop (P.cellsOf A + P.cellsOf B))
    have e2 := List.take_append_drop (P.cellsOf B) (cs.drop (P.cellsOf A))
    rw [List.drop_drop] at e3 e2
    rw [e3, e2, List.drop_zero, List.take_append_drop]
  rw [hcs]
  exact k1.append (m1.append (p1.append q1))
theorem by_int : Tryz.prog.bytesOf 3 = 8 := by kernel_rfl
theorem by_edge : Tryz.prog.bytesOf 133 = 24 := by kernel_rfl
theorem by_slot : Tryz.prog.bytesOf 102 = 32 := by kernel_rfl
theorem by_test : Tryz.prog.bytesOf 104 = 40 := by kernel_rfl
theorem by_cond : Tryz.prog.bytesOf 35 = 184 := by kernel_rfl
theorem rdInts_ok {l : List Int} (h : rdInts.ok l) : l.length ≤ bigN := by
  have h2 : l.length * Tryz.prog.bytesOf 3 ≤ reachBytes := h.2
  rw [by_int] at h2; unfold reachBytes at h2; rw [bigN_eq]; omega
theorem rdEdges_ok {l : List E} (h : rdEdges.ok l) : l.length ≤ bigN := by
  have h2 : l.length * Tryz.prog.bytesOf 133 ≤ reachBytes := h.2
  rw [by_edge] at h2; unfold reachBytes at h2; rw [bigN_eq]; omega
structure Gr.Big (g : Gr) : Prop where
  n : g.nodes.length ≤ bigN
  e : g.edges.length ≤ bigN
def rdGraphB : Rdr Tryz.prog 25 Gr := rdGraph0.map (fun x => ⟨x.1, x.2⟩) (fun g => [ints g.nodes, AM.edges g.edges]) Gr.Big (fun _ => rfl) (fun _ h => ⟨rdInts_ok h.1, rdEdges_ok h.2⟩) (fun _ => by kernel_rfl)
def rdMorph0 : Rdr Tryz.prog 32 (List Int × List Int) := Rdr.struct2 rdInts rdInts Tryz.underlying32 rfl rfl rfl (by kernel_rfl) (by kernel_rfl)
def rdTerm : Rdr Tryz.prog 100 (Int × Int) := Rdr.struct2 rdInt rdInt Tryz.underlying100 rfl rfl rfl (by kernel_rfl) (by kernel_rfl)
def rdSlot0 : Rdr Tryz.prog 102 (Int × Int × Int × Int) := Rdr.struct3 rdInt rdInt rdTerm Tryz.underlying102 rfl rfl rfl rfl (by kernel_rfl) (by kernel_rfl) (by kernel_rfl)
def rdSlot : Rdr Tryz.prog 102 Sl := rdSlot0.map (fun x => ⟨x.1, x.2.1, x.2.2.1, x.2.2.2⟩) Sl.cells (fun _ => True) (fun _ => rfl) (fun _ _ => trivial) (fun _ => by kernel_rfl)
def rdSlots : Rdr Tryz.prog 26 (List Sl) := rdSlot.sliceN 4 Tryz.underlying26 (by kernel_rfl) (by kernel_rfl)
def rdTest0 : Rdr Tryz.prog 104 (Int × (Int × Int) × (Int × Int)) := Rdr.struct3 rdInt rdTerm rdTerm Tryz.underlying104 rfl rfl rfl rfl (by kernel_rfl) (by kernel_rfl) (by kernel_rfl)
def rdTest : Rdr Tryz.prog 104 Te := rdTest0.map (fun x => ⟨x.1, x.2.1.1, x.2.1.2, x.2.2.1, x.2.2.2⟩) Te.cells (fun _ => True) (fun _ => rfl) (fun _ _ => trivial) (fun _ => by kernel_rfl)
def rdTests : Rdr Tryz.prog 27 (List Te) := rdTest.sliceN 5 Tryz.underlying27 (by kernel_rfl) (by kernel_rfl)
theorem rdPat_n (n : Nat) : RdF Tryz.prog 29 (fun x : Gr × List Sl × Int × List Te => rdGraphB.enc x.1 ++ (rdSlots.enc x.2.1 ++ (rdInt.enc x.2.2.1 ++ rdTests.enc x.2.2.2))) (fun x => rdGraphB.ok x.1 ∧ rdSlots.ok x.2.1 ∧ rdInt.ok x.2.2.1 ∧ rdTests.ok x.2.2.2) n := by
  cases n with
  | zero => exact .zero
  | succ n => exact RdF.struct4 (rdGraphB.f n) (rdSlots.f n) (rdInt.f n) (rdTests.f n) Tryz.underlying29 rfl rfl rfl rfl rfl (by kernel_rfl) (by kernel_rfl) (by kernel_rfl) (by kernel_rfl)
def rdPat : Rdr Tryz.prog 29 (Gr × List Sl × Int × List Te) := Rdr.ofF _ _ (fun x => by simp [rdGraphB.len, rdSlots.len, rdInt.len, rdTests.len]; kernel_rfl) rdPat_n
def Cd.rowD (c : Cd) : List D := [.raw (.int .i64 c.kind), conds c.kids, ints c.m.nodes, ints c.m.edges, ints c.g.nodes, AM.edges c.g.edges, slots c.sl, .raw (.int .i64 c.vars), tests c.te]
theorem rdCd_n : ∀ n, RdF Tryz.prog 35 Cd.cells Cd.Big n
  | 0 => .zero
  | 1 => by
    constructor
    intro H e w base spare held cs x hx
    obtain ⟨xs, n', hn', rfl, hl, hxs, hat⟩ := DataW.trod_struct Tryz.underlying35 hx
    obtain rfl : n' = 0 := by omega
    have g0 := hat 0 _ rfl
    simp [DataW.trod] at g0
    subst g0
    simp at hxs
  | n + 2 => by
    have ih := rdCd_n n
    have hk := ih.slice 9 (by kernel_rfl) (fun c => by rw [c.cells_eq]; rfl) (T := 33) Tryz.underlying33
    have hs := RdF.struct4 (rdInt.f (n + 1)) hk (rdMorph0.f (n + 1)) (rdPat.f (n + 1)) Tryz.underlying35 rfl rfl rfl rfl rfl (by kernel_rfl) (by kernel_rfl) (by kernel_rfl) (by kernel_rfl)
    constructor
    intro H e w base spare held cs x hx
    obtain ⟨y, h1, h2⟩ := hs.sound e w base spare held cs x hx
    refine ⟨.mk y.1 y.2.1 ⟨y.2.2.1.1, y.2.2.1.2⟩ y.2.2.2.1 y.2.2.2.2.1 y.2.2.2.2.2.1 y.2.2.2.2.2.2, ?_, fun hli => ?_⟩
    · rw [Cd.cells_eq]
      exact h1
    · obtain ⟨_, ⟨k1, k2⟩, ⟨m1, m2⟩, g1, s1, _, t1⟩ := h2 hli
      have g2 : y.2.2.2.1.Big := g1
      have s2 : y.2.2.2.2.1.length * Tryz.prog.bytesOf 102 ≤ reachBytes := s1.2
      have t2 : y.2.2.2.2.2.2.length * Tryz.prog.bytesOf 104 ≤ reachBytes := t1.2
      rw [by_slot] at s2
      rw [by_test] at t2
      rw [by_cond] at k2
      unfold reachBytes at s2 t2 k2
      exact .mk (by rw [kidN_eq]; simp only [Cd.kids]; omega) (rdInts_ok m1) (rdInts_ok m2) g2.n g2.e (by rw [bigN_eq]; simp only [Cd.sl]; omega) (by rw [bigN_eq]; simp only [Cd.te]; omega) k1
theorem rdCd_len (c : Cd) : c.cells.length = Tryz.prog.cellsOf 35 := by rw [c.cells_eq]; kernel_rfl
def rdCd : Rdr Tryz.prog 35 Cd := Rdr.ofF Cd.cells Cd.Big rdCd_len rdCd_n
set_option maxRecDepth 100000 in
theorem arg_cond {ps : Array TypeId} {args : Array Value} {W : World} {base base' : Nat} {sp : Nat → Bool} {held : Bool} {H : Type} {enc : TypeId × Value → H} (hval : ∀ (j : Nat) t v, ps[j]? = some t → args[j]? = some v → Value.okWide Tryz.prog W .any base t v)
    (j : Nat) (v : Value) (hp : ps[j]? = some 35) (ha : args[j]? = some v) {d : DataW H} {p : List MemPlace} (h : DataW.Trod enc Tryz.prog W base' sp held 35 v d p) (hli : Light Tryz.prog 35 d) : ∃ c : Cd, c.Big ∧ RV G0 W c.av v := by
  refine Exists.elim (arg_agg hval j 35 v hp ha rdCd aggT_35 h hli) fun c hc => ⟨c, hc.1, ?_⟩
  have h2 : RV G0 W (.agg (c.cells.map .d)) v := hc.2
  rw [c.cells_eq] at h2
  exact h2
end Go.AM
namespace Go.AM
open Go Go.Proofs Go.ChangeShapes
def Rdr.str {P : Program} {T : TypeId} (h : P.underlying T = some .string) (hc : P.cellsOf T = 1) : Rdr P T ByteArray where
  enc n := [.raw (.string n)]
  ok n := n.size ≤ maxLen
  len _ := by simp [hc]
  sound e w base spare held fuel cs x hx := by
    cases fuel with
    | zero => simp [DataW.trod] at hx
    | succ n =>
      unfold DataW.trod at hx
      rw [h] at hx
      split at hx <;> simp_all
      exact ⟨_, Rd.one (.raw rfl), fun _ => hx.1⟩
def Rdr.bool {P : Program} {T : TypeId} (h : P.underlying T = some .bool) (hc : P.cellsOf T = 1) : Rdr P T Bool where
  enc n := [.raw (.bool n)]
  ok n := True
  len _ := by simp [hc]
  sound e w base spare held fuel cs x hx := by
    cases fuel with
    | zero => simp [DataW.trod] at hx
    | succ n =>
      unfold DataW.trod at hx
      rw [h] at hx
      split at hx <;> first | (simp_all; done) | skip
      exact ⟨_, Rd.one (.raw rfl), fun _ => trivial⟩
theorem list7 {α : Type} {l : List α} (h : l.length = 7) : l = [l[0]'(by omega), l[1]'(by omega), l[2]'(by omega), l[3]'(by omega), l[4]'(by omega), l[5]'(by omega), l[6]'(by omega)] := by
  match l, h with
  | [p0, p1, p2, p3, p4, p5, p6], _ => rfl
theorem RdF.struct7 {P : Program} {T T0 T1 T2 T3 T4 T5 T6 : TypeId} {a0 a1 a2 a3 a4 a5 a6 : Type} {e0 : a0 → List D} {e1 : a1 → List D} {e2 : a2 → List D} {e3 : a3 → List D} {e4 : a4 → List D} {e5 : a5 → List D} {e6 : a6 → List D} {o0 : a0 → Prop} {o1 : a1 → Prop} {o2 : a2 → Prop} {o3 : a3 → Prop} {o4 : a4 → Prop} {o5 : a5 → Prop} {o6 : a6 → Prop} {n : Nat}
    (r0 : RdF P T0 e0 o0 n) (r1 : RdF P T1 e1 o1 n) (r2 : RdF P T2 e2 o2 n) (r3 : RdF P T3 e3 o3 n) (r4 : RdF P T4 e4 o4 n) (r5 : RdF P T5 e5 o5 n) (r6 : RdF P T6 e6 o6 n) {f0 f1 f2 f3 f4 f5 f6 : Field} (h : P.underlying T = some (.struct #[f0, f1, f2, f3, f4, f5, f6])) (t0 : f0.type = T0) (t1 : f1.type = T1) (t2 : f2.type = T2) (t3 : f3.type = T3) (t4 : f4.type = T4) (t5 : f5.type = T5) (t6 : f6.type = T6)
    (h0 : f0.offset = 0) (h1 : f1.offset = P.cellsOf T0) (h2 : f2.offset = P.cellsOf T0 + P.cellsOf T1) (h3 : f3.offset = P.cellsOf T0 + P.cellsOf T1 + P.cellsOf T2) (h4 : f4.offset = P.cellsOf T0 + P.cellsOf T1 + P.cellsOf T2 + P.cellsOf T3) (h5 : f5.offset = P.cellsOf T0 + P.cellsOf T1 + P.cellsOf T2 + P.cellsOf T3 + P.cellsOf T4) (h6 : f6.offset = P.cellsOf T0 + P.cellsOf T1 + P.cellsOf T2 + P.cellsOf T3 + P.cellsOf T4 + P.cellsOf T5) (hc : P.cellsOf T = P.cellsOf T0 + P.cellsOf T1 + P.cellsOf T2 + P.cellsOf T3 + P.cellsOf T4 + P.cellsOf T5 + P.cellsOf T6) :
    RdF P T (fun x : a0 × a1 × a2 × a3 × a4 × a5 × a6 => e0 x.1 ++ (e1 x.2.1 ++ (e2 x.2.2.1 ++ (e3 x.2.2.2.1 ++ (e4 x.2.2.2.2.1 ++ (e5 x.2.2.2.2.2.1 ++ e6 x.2.2.2.2.2.2)))))) (fun x => o0 x.1 ∧ o1 x.2.1 ∧ o2 x.2.2.1 ∧ o3 x.2.2.2.1 ∧ o4 x.2.2.2.2.1 ∧ o5 x.2.2.2.2.2.1 ∧ o6 x.2.2.2.2.2.2) (n + 1) := by
  constructor
  intro H e w base spare held cs x hx
  obtain ⟨xs, n', hn', rfl, hl, hxs, hat⟩ := DataW.trod_struct h hx
  obtain rfl : n' = n := by omega
  have hxs' : xs.length = 7 := hxs
  have g0 := hat 0 f0 rfl
  have g1 := hat 1 f1 rfl
  have g2 := hat 2 f2 rfl
  have g3 := hat 3 f3 rfl
  have g4 := hat 4 f4 rfl
  have g5 := hat 5 f5 rfl
  have g6 := hat 6 f6 rfl
  have e0 : xs[0]? = some (xs[0]'(by omega)) := List.getElem?_eq_getElem (by omega)
  have e1 : xs[1]? = some (xs[1]'(by omega)) := List.getElem?_eq_getElem (by omega)
  have e2 : xs[2]? = some (xs[2]'(by omega)) := List.getElem?_eq_getElem (by omega)
  have e3 : xs[3]? = some (xs[3]'(by omega)) := List.getElem?_eq_getElem (by omega)
  have e4 : xs[4]? = some (xs[4]'(by omega)) := List.getElem?_eq_getElem (by omega)
  have e5 : xs[5]? = some (xs[5]'(by omega)) := List.getElem?_eq_getElem (by omega)
  have e6 : xs[6]? = some (xs[6]'(by omega)) := List.getElem?_eq_getElem (by omega)
  rw [e0, h0, t0] at g0
  rw [e1, h1, t1] at g1
  rw [e2, h2, t2] at g2
  rw [e3, h3, t3] at g3
  rw [e4, h4, t4] at g4
  rw [e5, h5, t5] at g5
  rw [e6, h6, t6] at g6
  obtain ⟨y0, k0, m0⟩ := r0.sound e w base spare held _ _ g0
  obtain ⟨y1, k1, m1⟩ := r1.sound e w base spare held _ _ g1
  obtain ⟨y2, k2, m2⟩ := r2.sound e w base spare held _ _ g2
  obtain ⟨y3, k3, m3⟩ := r3.sound e w base spare held _ _ g3
  obtain ⟨y4, k4, m4⟩ := r4.sound e w base spare held _ _ g4
  obtain ⟨y5, k5, m5⟩ := r5.sound e w base spare held _ _ g5
  obtain ⟨y6, k6, m6⟩ := r6.sound e w base spare held _ _ g6
  refine ⟨(y0, y1, y2, y3, y4, y5, y6), ?_, fun hli => ?_⟩
  rotate_left
  · unfold Light at hli m0 m1 m2 m3 m4 m5 m6
    rw [list7 hxs'] at hli
    simp only [List.map_cons, List.map_nil, DataW.weights, h, DataW.weightsEach, t0, t1, t2, t3, t4, t5, t6, List.all_append, Bool.and_eq_true] at hli
    exact ⟨m0 hli.1, m1 hli.2.1, m2 hli.2.2.1, m3 hli.2.2.2.1, m4 hli.2.2.2.2.1, m5 hli.2.2.2.2.2.1, m6 hli.2.2.2.2.2.2.1⟩
  have hcs : cs = (cs.drop (0)).take (P.cellsOf T0) ++ ((cs.drop (P.cellsOf T0)).take (P.cellsOf T1) ++ ((cs.drop (P.cellsOf T0 + P.cellsOf T1)).take (P.cellsOf T2) ++ ((cs.drop (P.cellsOf T0 + P.cellsOf T1 + P.cellsOf T2)).take (P.cellsOf T3) ++ ((cs.drop (P.cellsOf T0 + P.cellsOf T1 + P.cellsOf T2 + P.cellsOf T3)).take (P.cellsOf T4) ++ ((cs.drop (P.cellsOf T0 + P.cellsOf T1 + P.cellsOf T2 + P.cellsOf T3 + P.cellsOf T4)).take (P.cellsOf T5) ++ ((cs.drop (P.cellsOf T0 + P.cellsOf T1 + P.cellsOf T2 + P.cellsOf T3 + P.cellsOf T4 + P.cellsOf T5)).take (P.cellsOf T6))))))) := by
    have : (cs.drop (P.cellsOf T0 + P.cellsOf T1 + P.cellsOf T2 + P.cellsOf T3 + P.cellsOf T4 + P.cellsOf T5)).take (P.cellsOf T6) = cs.drop (P.cellsOf T0 + P.cellsOf T1 + P.cellsOf T2 + P.cellsOf T3 + P.cellsOf T4 + P.cellsOf T5) := List.take_of_length_le (by simp; omega)
    rw [this]
    have e5 := List.take_append_drop (P.cellsOf T5) (cs.drop (P.cellsOf T0 + P.cellsOf T1 + P.cellsOf T2 + P.cellsOf T3 + P.cellsOf T4))
    have e4 := List.take_append_drop (P.cellsOf T4) (cs.drop (P.cellsOf T0 + P.cellsOf T1 + P.cellsOf T2 + P.cellsOf T3))
    have e3 := List.take_append_drop (P.cellsOf T3) (cs.drop (P.cellsOf T0 + P.cellsOf T1 + P.cellsOf T2))
    have e2 := List.take_append_drop (P.cellsOf T2) (cs.drop (P.cellsOf T0 + P.cellsOf T1))
    have e1 := List.take_append_drop (P.cellsOf T1) (cs.drop (P.cellsOf T0))
    rw [List.drop_drop] at e5 e4 e3 e2 e1
    rw [e5, e4, e3, e2, e1, List.drop_zero, List.take_append_drop]
  rw [hcs]
  exact k0.append (k1.append (k2.append (k3.append (k4.append (k5.append (k6))))))
end Go.AM
namespace Go.AM
open Go Go.Proofs Go.ChangeShapes
def rdStr : Rdr Tryz.prog 9 ByteArray := Rdr.str Tryz.underlying9 (by kernel_rfl)
def rdBool : Rdr Tryz.prog 4 Bool := Rdr.bool Tryz.underlying4 (by kernel_rfl)
def rdPart0 : Rdr Tryz.prog 31 (List Int × List Int) := Rdr.struct2 rdInts rdInts Tryz.underlying31 rfl rfl rfl (by kernel_rfl) (by kernel_rfl)
theorem rdSlots_ok {l : List Sl} (h : rdSlots.ok l) : l.length ≤ bigN := by
  have h2 : l.length * Tryz.prog.bytesOf 102 ≤ reachBytes := h.2
  rw [by_slot] at h2
  have : reachBytes = 140737488351232 := rfl
  rw [bigN_eq]; omega
theorem rdTests_ok {l : List Te} (h : rdTests.ok l) : l.length ≤ bigN := by
  have h2 : l.length * Tryz.prog.bytesOf 104 ≤ reachBytes := h.2
  rw [by_test] at h2
  have : reachBytes = 140737488351232 := rfl
  rw [bigN_eq]; omega
abbrev RuT := ByteArray × (Gr × List Sl × Int × List Te) × (Gr × List Sl × Int × List Te) × (List Int × List Int) × (List Int × List Int) × Bool × Cd
theorem rdRu_n (n : Nat) : RdF Tryz.prog 37 (fun x : RuT => rdStr.enc x.1 ++ (rdPat.enc x.2.1 ++ (rdPat.enc x.2.2.1 ++ (rdPart0.enc x.2.2.2.1 ++ (rdMorph0.enc x.2.2.2.2.1 ++ (rdBool.enc x.2.2.2.2.2.1 ++ rdCd.enc x.2.2.2.2.2.2)))))) (fun x => rdStr.ok x.1 ∧ rdPat.ok x.2.1 ∧ rdPat.ok x.2.2.1 ∧ rdPart0.ok x.2.2.2.1 ∧ rdMorph0.ok x.2.2.2.2.1 ∧ rdBool.ok x.2.2.2.2.2.1 ∧ rdCd.ok x.2.2.2.2.2.2) n := by
  cases n with
  | zero => exact .zero
  | succ n => exact RdF.struct7 (rdStr.f n) (rdPat.f n) (rdPat.f n) (rdPart0.f n) (rdMorph0.f n) (rdBool.f n) (rdCd.f n) Tryz.underlying37 rfl rfl rfl rfl rfl rfl rfl rfl (by kernel_rfl) (by kernel_rfl) (by kernel_rfl) (by kernel_rfl) (by kernel_rfl) (by kernel_rfl) (by kernel_rfl)
def rdRu0 : Rdr Tryz.prog 37 RuT := Rdr.ofF _ _ (fun x => by simp [rdStr.len, rdPat.len, rdPart0.len, rdMorph0.len, rdBool.len, rdCd.len]; kernel_rfl) rdRu_n
def Ru.rowD (r : Ru) : List D := [.raw (.string r.name), ints r.lg.nodes, AM.edges r.lg.edges, slots r.lsl, .raw (.int .i64 r.lv), tests r.lte, ints r.rg.nodes, AM.edges r.rg.edges, slots r.rsl, .raw (.int .i64 r.rv), tests r.rte,
  ints r.k.nodes, ints r.k.edges, ints r.i.nodes, ints r.i.edges, .raw (.bool r.inj)] ++ r.c.cells
theorem rdRu_len (r : Ru) : r.rowD.length = Tryz.prog.cellsOf 37 := by rw [Ru.rowD, r.c.cells_eq]; kernel_rfl
def rdRu : Rdr Tryz.prog 37 Ru := rdRu0.map (fun x => ⟨x.1, x.2.1.1, x.2.1.2.1, x.2.1.2.2.1, x.2.1.2.2.2, x.2.2.1.1, x.2.2.1.2.1, x.2.2.1.2.2.1, x.2.2.1.2.2.2, ⟨x.2.2.2.1.1, x.2.2.2.1.2⟩, ⟨x.2.2.2.2.1.1, x.2.2.2.2.1.2⟩, x.2.2.2.2.2.1, x.2.2.2.2.2.2⟩) Ru.rowD Ru.Big (fun _ => rfl) (fun x h => ⟨⟨rdInts_ok h.2.2.2.1.1, rdInts_ok h.2.2.2.1.2⟩, ⟨rdInts_ok h.2.2.2.2.1.1, rdInts_ok h.2.2.2.2.1.2⟩, rdSlots_ok h.2.1.2.1, rdTests_ok h.2.1.2.2.2, rdSlots_ok h.2.2.1.2.1, rdTests_ok h.2.2.1.2.2.2, h.2.2.2.2.2.2⟩) rdRu_len
set_option maxRecDepth 100000 in
theorem arg_rule {ps : Array TypeId} {args : Array Value} {W : World} {base base' : Nat} {sp : Nat → Bool} {held : Bool} {H : Type} {enc : TypeId × Value → H} (hval : ∀ (j : Nat) t v, ps[j]? = some t → args[j]? = some v → Value.okWide Tryz.prog W .any base t v)
    (j : Nat) (v : Value) (hp : ps[j]? = some 37) (ha : args[j]? = some v) {d : DataW H} {p : List MemPlace} (h : DataW.Trod enc Tryz.prog W base' sp held 37 v d p) (hli : Light Tryz.prog 37 d) : ∃ r : Ru, r.Big ∧ RV G0 W r.av v := by
  refine Exists.elim (arg_agg hval j 37 v hp ha rdRu aggT_37 h hli) fun r hr => ⟨r, hr.1, ?_⟩
  have h2 : RV G0 W (.agg (r.rowD.map .d)) v := hr.2
  rw [Ru.rowD, r.c.cells_eq] at h2
  exact h2
end Go.AM
