/-
  Parts of the proof, as merged from many texts: a machine over data, what the functions compute, plain laws.
-/
import Derived.Test.YtedpnmlgbjcpcaaGreatDoorMQ7
import Derived.Shelf.Strings.Builder1
import Derived.Shelf.Strings.Builder2
import Derived.Shelf.Small.Strs
import Derived.Shelf.Strings.BuilderF
import Derived.Shelf.Strings.BuilderK
import Derived.Shelf.Strconv.Itoa0
import Derived.Shelf.Strconv.Itoa1
import Derived.Shelf.LaysM
import Derived.Shelf.Strconv.Itoa2
import Derived.Shelf.Strconv.Itoa3
import Derived.Shelf.Strings.Search1
import Derived.Shelf.Sort.Plain
import Derived.Shelf.Strings.Prefix
import Derived.Shelf.Strings.Fields
import Derived.Shelf.Unicode.Latin
import Derived.Shelf.Bits.Mul64
import Derived.Shelf.Strings.Repeat
import Derived.Shelf.Unicode.Is16White
import Derived.Shelf.Unicode.IsSpaceAny
import Derived.Shelf.Unicode.Is16Any
import Derived.Shelf.Unicode.Is32Any
import Derived.Shelf.Unicode.ExclAny
import Derived.Shelf.Slices.Equal
import Derived.Shelf.Slices.In.SortNone
import Derived.Test.YtedpnmlgbjcpcaaGreatDoorProg
import Derived.Sort.KeysCollected
import Derived.Lib.UnsafeStr
import Derived.Shelf.RegionOpenPlain
import Derived.Maps.RangeWalk
import Derived.Maps.OwnOps
import Derived.Maps.OwnSet
import Derived.Sort.OwnSorted
set_option linter.unusedSimpArgs false
set_option linter.unusedVariables false
namespace Go.AM
open Go Go.Proofs
def stPad (n : Nat) (nb : Nat) (box : Nat → Option (List (List AV))) (tok : Nat → Bool) (nt : Nat) (i : Nat) : AState :=
  ⟨tl [(4, I i), (3, Sb (padR i)), (0, I n)], lb nb box [], tok, nt⟩
set_option maxRecDepth 100000 in
theorem pad46_c (n : Nat) (hn : n ≤ 1000) (tok : Nat → Bool) (nt : Nat) : DCall Tryz.prog 117 [I n] tok nt (Sb (padR n)) tok nt := by
  intro box nb
  refine sB Tryz.func117 Tryz.ntmps117 ?_
  intro hbox htok
  simp only at hbox htok
  apply AL.start
  try (simp)
  repeat (refine sR ?_; simp)
  refine sN ?_
  refine AL.loopT (stPad n nb box tok nt) (fun i => i ≤ n) (fun i => n - i) 0 (Nat.zero_le _) (Weaks.mk (Nat.le_refl _) rfl (by simp [ToL, lk, padR]) (by simp [BoxL, lk])) ?_
  rintro i S hi hS
  simp only [stPad] at hS
  subst hS
  have hw := sW (i := i) (by omega)
  by_cases hlt : i < n
  · have hlt' : (i : Int) < n := by omega
    have hsz := padR_size i
    have hsz2 : (padR i).size + 2 ≤ 1000000000000 := by omega
    try (simp [hlt'])
    repeat (refine sR ?_; simp [hlt'])
    refine sC ?_
    simp [hlt']
    try (simp [hw])
    repeat (refine sR ?_; simp [hw])
    refine ⟨hsz2, ?_⟩
    try (simp [hw])
    repeat (first | (refine sR ?_; simp [hw]) | (refine sC ?_; simp [hw]) | (refine sX ?_; simp only [AU, ↓reduceIte]))
    refine sE ?_
    exact ⟨i + 1, hlt, by omega, Weaks.mk (Nat.le_refl _) rfl (by simp [ToL, lk, padR]) (by simp [BoxL, lk])⟩
  · have : i = n := by omega
    subst this
    have hlt' : ¬ (i : Int) < (i : Int) := by omega
    try (simp [hlt'])
    repeat (refine sR ?_; simp [hlt'])
    refine sC ?_
    simp [hlt']
    refine sX ?_
    simp only [AU, ↓reduceIte]
    try (simp)
    repeat (refine sR ?_; simp)
    refine sT ?_
    try simp only [AU]
    refine ⟨by simp, sF hbox htok (fun _ h => h) (Nat.le_refl _) ?_⟩
    simp [packA]
theorem digits_c (n : Int) (h0 : 0 ≤ n) (h1 : n < 10) (tok : Nat → Bool) (nt : Nat) : DCall Tryz.prog 62 [I n] tok nt (Sb (digR n)) tok nt := by
  intro box nb
  have a1 : ¬ n < 0 := by omega
  have a2 : n.toNat + 1 ≤ 10 := by omega
  have hw : IntKind.i64.wrap (n + 1) = n + 1 := wrap_in (by omega) (by omega)
  refine sB Tryz.func62 Tryz.ntmps62 ?_
  intro hbox htok
  simp only at hbox htok
  apply AL.start
  try (simp [h0, h1, a1, hw])
  repeat (first | (refine sR ?_; simp [h0, h1, a1, hw]) | (refine sC ?_; simp [h0, h1, a1, hw]) | (refine sX ?_; simp only [AU, ↓reduceIte]))
  have t1 : (n + 1).toNat = n.toNat + 1 := by omega
  refine ⟨⟨by omega, by omega, by show n + 1 ≤ (10 : Int); omega⟩, ?_⟩
  try (simp [hw])
  repeat (first | (refine sR ?_; simp [hw]) | (refine sC ?_; simp [hw]) | (refine sX ?_; simp only [AU, ↓reduceIte]))
  refine sT ?_
  try simp only [AU]
  refine ⟨by simp, sF hbox htok (fun _ h => h) (Nat.le_refl _) ?_⟩
  simp [packA, digR, digsB, hw, t1]
theorem Sub_size_le {a b : ByteArray} : a.size ≤ (a ++ b).size := by rw [ByteArray.size_append]; omega
theorem fmK_le (ind : Nat) (ws : List ByteArray) (l : List Cm) (i : Nat) : (fmK ind ws 0 (l.take i)).size ≤ (fmK ind ws 0 l).size := by
  conv => rhs; rw [← List.take_append_drop i l, fmK_app]
  exact Sub_size_le
theorem fmS_le (ind : Nat) (l : List Cm) (i : Nat) : (fmS ind (l.take i)).size ≤ (fmS ind l).size := by
  conv => rhs; rw [← List.take_append_drop i l, fmS_app]
  exact Sub_size_le
theorem wdAt_at {ws : List ByteArray} {i k : Nat} (hw : 1 ≤ ws.length) (hk : k = min i (ws.length - 1)) (h : k < ws.length) : ws[k] = wdAt ws i := by
  subst hk
  rw [wdAt, List.getD_eq_getElem?_getD, List.getElem?_eq_getElem h]
  rfl
theorem eOpen : (⟨#[32, 123, 10]⟩ : ByteArray) = fOpen ++ ⟨#[10]⟩ := by decide
theorem eSemi : (⟨#[32, 59, 10]⟩ : ByteArray) = fSemi ++ ⟨#[10]⟩ := by decide
theorem eClose : (⟨#[125, 10]⟩ : ByteArray) = ⟨#[125]⟩ ++ ⟨#[10]⟩ := by decide
theorem eSkip : (⟨#[115, 107, 105, 112, 32, 59, 10]⟩ : ByteArray) = fSkip ++ ⟨#[10]⟩ := by decide
theorem eFail : (⟨#[102, 97, 105, 108, 32, 59, 10]⟩ : ByteArray) = fFail ++ ⟨#[10]⟩ := by decide
def stBks (c : Cm) (ind : Nat) (ws : List ByteArray) (nb : Nat) (box : Nat → Option (List (List AV))) (tok : Nat → Bool) (nt : Nat) (i : Nat) : AState :=
  ⟨tl [(8, I i), (7, Sb (fmK ind ws 0 (c.kids.take i))), (1, I ind), (2, .d (strs ws)), (3, .ptr (nb + 3) 0 0)], lb nb box [(3, [c.row])], tok, nt⟩
set_option maxRecDepth 100000 in
theorem blocks46_c (c : Cm) (ind : Nat) (ws : List ByteArray) (hw1 : 1 ≤ ws.length) (hw2 : ws.length ≤ 3) (hws : ∀ w ∈ ws, w.size ≤ 20) (hi : ind ≤ 100) (hl : c.kids.length ≤ 1000000000) (hb : (fmK ind ws 0 c.kids).size ≤ 1000000000)
    (ih : ∀ x ∈ c.kids, ∀ (tok : Nat → Bool) (nt : Nat), DCall Tryz.prog 43 [x.av, I ((ind + 1 : Nat) : Int)] tok nt (Sb (fmC true (ind + 1) x)) tok nt) (tok : Nat → Bool) (nt : Nat) :
    DCall Tryz.prog 118 [c.av, I ind, .d (strs ws)] tok nt (Sb (fmK ind ws 0 c.kids ++ lineR ind ⟨#[125]⟩)) tok nt := by
  intro box nb
  have hpd := pad46_c ind (by omega)
  refine sB Tryz.func118 Tryz.ntmps118 ?_
  intro hbox htok
  simp only at hbox htok
  apply AL.start
  try (simp)
  repeat (refine sR ?_; simp)
  refine sN ?_
  refine AL.loopT (stBks c ind ws nb box tok nt) (fun i => i ≤ c.kids.length) (fun i => c.kids.length - i) 0 (Nat.zero_le _) (Weaks.mk (Nat.le_refl _) rfl (by simp [ToL, lk, fmK]) (by simp [BoxL, lk])) ?_
  rintro i S hi2 hS
  simp only [stBks] at hS
  subst hS
  have hw := sW (i := i) (by omega)
  have hwi := sW (i := ind) (by omega)
  have hwl : IntKind.i64.wrap (↑ws.length - 1) = (ws.length : Int) - 1 := wrap_in (by omega) (by omega)
  have ht := fmK_le ind ws c.kids i
  have hps := padR_size ind
  by_cases hlt : i < c.kids.length
  · obtain ⟨k, hk⟩ : ∃ k, k = min i (ws.length - 1) := ⟨_, rfl⟩
    have hk1 : min (i : Int) ((ws.length : Int) - 1) = (k : Int) := by omega
    have hk2 : k < ws.length := by omega
    have hk2' : (k : Int) < ws.length := by omega
    have hwd := wdAt_at hw1 hk hk2
    have hwz := wdAt_size hws i
    have ihx := ih _ (List.getElem_mem hlt)
    have ht2 := fmK_take ind ws hlt
    have ht3 := fmK_le ind ws c.kids (i + 1)
    rw [ht2, ByteArray.size_append, ByteArray.size_append] at ht3
    try (simp [hlt])
    repeat (refine sR ?_; simp [hlt])
    refine sC ?_
    simp
    try (simp)
    repeat (refine sR ?_; simp)
    refine Stop.of_d (hpd _ _) ?_
    simp
    try (simp [hwl, hk1, hk2, hk2', hwd, hlt, Cm.cells_eq, hwi])
    repeat (refine sR ?_; simp [hwl, hk1, hk2, hk2', hwd, hlt, Cm.cells_eq, hwi])
    generalize c.kids[i] = x at *
    have z1 : (⟨#[32, 123, 10]⟩ : ByteArray).size = 3 := rfl
    refine ⟨by omega, by omega, by omega, ?_⟩
    refine Stop.of_d (ihx _ _) ?_
    simp
    try (simp [hw])
    repeat (refine sR ?_; simp [hw])
    refine ⟨by omega, ?_⟩
    try (simp [hw])
    repeat (first | (refine sR ?_; simp [hw]) | (refine sC ?_; simp [hw]) | (refine sX ?_; simp only [AU, ↓reduceIte]))
    refine sE ?_
    exact ⟨i + 1, hlt, by omega, Weaks.mk (Nat.le_refl _) rfl (by simp [ToL, lk, ht2, lineR, eOpen, ByteArray.append_assoc]) (by simp [BoxL, lk])⟩
  · have : i = c.kids.length := by omega
    subst this
    rw [List.take_length] at ht ⊢
    try (simp [hlt])
    repeat (refine sR ?_; simp [hlt])
    refine sC ?_
    simp
    refine sX ?_
    simp only [AU, ↓reduceIte]
    try (simp)
    repeat (refine sR ?_; simp)
    refine Stop.of_d (hpd _ _) ?_
    simp
    have z1 : (⟨#[125, 10]⟩ : ByteArray).size = 2 := rfl
    refine ⟨by omega, by omega, ?_⟩
    try (simp)
    repeat (refine sR ?_; simp)
    refine sT ?_
    try simp only [AU]
    refine ⟨by simp, sF hbox htok (fun _ h => h) (Nat.le_refl _) ?_⟩
    simp [packA, lineR, eClose, ByteArray.append_assoc]
theorem bsz (a : Array UInt8) : (ByteArray.mk a).size = a.size := rfl
def stBq (c : Cm) (ind : Nat) (nb : Nat) (box : Nat → Option (List (List AV))) (tok : Nat → Bool) (nt : Nat) (i : Nat) : AState :=
  ⟨tl [(6, I i), (5, Sb (fmS ind (c.kids.take i))), (1, I ind), (2, .ptr (nb + 2) 0 0)], lb nb box [(2, [c.row])], tok, nt⟩
set_option maxRecDepth 100000 in
theorem fm46_c : ∀ (n : Nat) (c : Cm), c.size < n → c.Fm → c.size ≤ 100000 → ∀ (ind : Nat), ind + c.depth ≤ 100 →
    (∀ (tok : Nat → Bool) (nt : Nat), DCall Tryz.prog 78 [c.av, I ind] tok nt (Sb (fmC false ind c)) tok nt) ∧ (∀ (tok : Nat → Bool) (nt : Nat), DCall Tryz.prog 43 [c.av, I ind] tok nt (Sb (fmC true ind c)) tok nt)
  | 0, c, hn, _, _, _, _ => absurd hn (Nat.not_lt_zero _)
  | n + 1, c, hn, hf, hz, ind, hd => by
    have ih := fun x (hx : x ∈ c.kids) => fm46_c n x (by have := Cm.kid_size hx; omega) (hf.kid x hx) (by have := Cm.kid_size hx; omega)
    have hdk : ∀ x ∈ c.kids, ind + 1 + x.depth ≤ 100 := fun x hx => by have := Cm.kid_depth hx; omega
    have hlen : c.kids.length ≤ 1000000000 := by have := Cm.len_le c.kids; have := c.size_eq; omega
    have hnm := hf.name
    have hpd := pad46_c ind (by omega)
    have hps := padR_size ind
    have hsz := fun bl => fmC_size _ c (Nat.lt_succ_self _) hf bl ind hd
    have hL : ∀ (tok : Nat → Bool) (nt : Nat), DCall Tryz.prog 78 [c.av, I ind] tok nt (Sb (fmC false ind c)) tok nt := by
      intro tok nt box nb
      have hR := fmC_eq false ind c
      rw [if_neg (by simp)] at hR
      have hszf := hsz false
      by_cases e1 : c.kind = 1
      · rw [if_pos e1] at hR
        refine sB Tryz.func78 Tryz.ntmps78 ?_
        intro hbox htok
        simp only at hbox htok
        apply AL.start
        try (simp [e1])
        repeat (refine sR ?_; simp [e1])
        refine sC ?_
        simp
        try (simp)
        repeat (refine sR ?_; simp)
        refine Stop.of_d (hpd _ _) ?_
        simp
        try (simp)
        repeat (refine sR ?_; simp)
        refine ⟨by (simp only [bsz, ByteArray.size_append, List.size_toArray, List.length_cons, List.length_nil]; omega), by (simp only [bsz, ByteArray.size_append, List.size_toArray, List.length_cons, List.length_nil]; omega), by (simp only [bsz, ByteArray.size_append, List.size_toArray, List.length_cons, List.length_nil]; omega), ?_⟩
        try (simp)
        repeat (refine sR ?_; simp)
        refine sT ?_
        try simp only [AU]
        refine ⟨by simp, sF hbox htok (fun _ h => h) (Nat.le_refl _) ?_⟩
        simp [packA, hR, lineR, eSemi, fApply, ByteArray.append_assoc]
      rw [if_neg e1] at hR
      have b1 : (c.kind == 1) = false := by simp [e1]
      by_cases e10 : c.kind = 10
      · rw [if_pos e10] at hR
        refine sB Tryz.func78 Tryz.ntmps78 ?_
        intro hbox htok
        simp only at hbox htok
        apply AL.start
        try (simp [e1, b1, e10])
        repeat (refine sR ?_; simp [e1, b1, e10])
        try (simp [e1, b1, e10])
        repeat (first | (refine sR ?_; simp [e1, b1, e10]) | (refine sC ?_; simp [e1, b1, e10]) | (refine sX ?_; simp only [AU, ↓reduceIte]))
        refine Stop.of_d (hpd _ _) ?_
        simp
        try (simp)
        repeat (refine sR ?_; simp)
        refine ⟨by (simp only [bsz, ByteArray.size_append, List.size_toArray, List.length_cons, List.length_nil]; omega), by (simp only [bsz, ByteArray.size_append, List.size_toArray, List.length_cons, List.length_nil]; omega), by (simp only [bsz, ByteArray.size_append, List.size_toArray, List.length_cons, List.length_nil]; omega), ?_⟩
        try (simp)
        repeat (refine sR ?_; simp)
        refine sT ?_
        try simp only [AU]
        refine ⟨by simp, sF hbox htok (fun _ h => h) (Nat.le_refl _) ?_⟩
        simp [packA, hR, lineR, eSemi, fCall, ByteArray.append_assoc]
      rw [if_neg e10] at hR
      have b10 : (c.kind == 10) = false := by simp [e10]
      by_cases e8 : c.kind = 8
      · rw [if_pos e8] at hR
        refine sB Tryz.func78 Tryz.ntmps78 ?_
        intro hbox htok
        simp only at hbox htok
        apply AL.start
        try (simp [e1, b1, e10, b10, e8])
        repeat (first | (refine sR ?_; simp [e1, b1, e10, b10, e8]) | (refine sC ?_; simp [e1, b1, e10, b10, e8]) | (refine sX ?_; simp only [AU, ↓reduceIte]))
        refine Stop.of_d (hpd _ _) ?_
        simp
        try (simp)
        repeat (refine sR ?_; simp)
        refine ⟨by (simp only [bsz, ByteArray.size_append, List.size_toArray, List.length_cons, List.length_nil]; omega), ?_⟩
        try (simp)
        repeat (refine sR ?_; simp)
        refine sT ?_
        try simp only [AU]
        refine ⟨by simp, sF hbox htok (fun _ h => h) (Nat.le_refl _) ?_⟩
        simp [packA, hR, lineR, eSkip, ByteArray.append_assoc]
      rw [if_neg e8] at hR
      have b8 : (c.kind == 8) = false := by simp [e8]
      by_cases e9 : c.kind = 9
      · rw [if_pos e9] at hR
        refine sB Tryz.func78 Tryz.ntmps78 ?_
        intro hbox htok
        simp only at hbox htok
        apply AL.start
        try (simp [e1, b1, e10, b10, e8, b8, e9])
        repeat (first | (refine sR ?_; simp [e1, b1, e10, b10, e8, b8, e9]) | (refine sC ?_; simp [e1, b1, e10, b10, e8, b8, e9]) | (refine sX ?_; simp only [AU, ↓reduceIte]))
        refine Stop.of_d (hpd _ _) ?_
        simp
        try (simp)
        repeat (refine sR ?_; simp)
        refine ⟨by (simp only [bsz, ByteArray.size_append, List.size_toArray, List.length_cons, List.length_nil]; omega), ?_⟩
        try (simp)
        repeat (refine sR ?_; simp)
        refine sT ?_
        try simp only [AU]
        refine ⟨by simp, sF hbox htok (fun _ h => h) (Nat.le_refl _) ?_⟩
        simp [packA, hR, lineR, eFail, ByteArray.append_assoc]
      rw [if_neg e9] at hR
      have b9 : (c.kind == 9) = false := by simp [e9]
      have hbl := fun ws h1 h2 h3 h4 => blocks46_c c ind ws h1 h2 h3 (by omega) hlen h4 fun x hx => (ih x hx (ind + 1) (hdk x hx)).2
      have hkz : ∀ ws, wdsR c.kind c.num = ws → (fmK ind ws 0 c.kids).size ≤ 1000000000 := fun ws h => by
        rw [hR, h, ByteArray.size_append] at hszf
        omega
      have hwz : ∀ ws, wdsR c.kind c.num = ws → ∀ w ∈ ws, w.size ≤ 20 := fun ws h => h ▸ wdsR_size _ _
      by_cases e3 : c.kind = 3
      · have hws : wdsR c.kind c.num = kwCho := by rw [wdsR, if_pos e3]
        have hb := hbl kwCho (by decide) (by decide) (hwz _ hws) (hkz _ hws)
        rw [hws] at hR
        have b3 : (c.kind == 3) = true := by simp [e3]
        refine sB Tryz.func78 Tryz.ntmps78 ?_
        intro hbox htok
        simp only at hbox htok
        apply AL.start
        try (simp [e1, b1, e10, b10, e8, b8, e9, b9, b3])
        repeat (first | (refine sR ?_; simp [e1, b1, e10, b10, e8, b8, e9, b9, b3]) | (refine sC ?_; simp [e1, b1, e10, b10, e8, b8, e9, b9, b3]) | (refine sX ?_; simp only [AU, ↓reduceIte]))
        refine ⟨rfl, Stop.data ?_⟩
        refine Stop.of_d (hb _ _) ?_
        simp
        try (simp)
        repeat (first | (refine sR ?_; simp) | (refine sC ?_; simp) | (refine sX ?_; simp only [AU, ↓reduceIte]))
        refine sT ?_
        try simp only [AU]
        refine ⟨by simp, sF hbox htok (fun _ h => h) (Nat.le_refl _) ?_⟩
        simp [packA, hR]
      have b3 : (c.kind == 3) = false := by simp [e3]
      by_cases e4 : c.kind = 4
      · have hws : wdsR c.kind c.num = kwIf := by rw [wdsR, if_neg e3, if_pos e4]
        have hb := hbl kwIf (by decide) (by decide) (hwz _ hws) (hkz _ hws)
        rw [hws] at hR
        have b4 : (c.kind == 4) = true := by simp [e4]
        refine sB Tryz.func78 Tryz.ntmps78 ?_
        intro hbox htok
        simp only at hbox htok
        apply AL.start
        try (simp [e1, b1, e10, b10, e8, b8, e9, b9, e3, b3, b4])
        repeat (first | (refine sR ?_; simp [e1, b1, e10, b10, e8, b8, e9, b9, e3, b3, b4]) | (refine sC ?_; simp [e1, b1, e10, b10, e8, b8, e9, b9, e3, b3, b4]) | (refine sX ?_; simp only [AU, ↓reduceIte]))
        refine ⟨rfl, Stop.data ?_⟩
        refine Stop.of_d (hb _ _) ?_
        simp
        try (simp)
        repeat (first | (refine sR ?_; simp) | (refine sC ?_; simp) | (refine sX ?_; simp only [AU, ↓reduceIte]))
        refine sT ?_
        try simp only [AU]
        refine ⟨by simp, sF hbox htok (fun _ h => h) (Nat.le_refl _) ?_⟩
        simp [packA, hR]
      have b4 : (c.kind == 4) = false := by simp [e4]
      by_cases e5 : c.kind = 5
      · have hws : wdsR c.kind c.num = kwLoop := by rw [wdsR, if_neg e3, if_neg e4, if_pos e5]
        have hb := hbl kwLoop (by decide) (by decide) (hwz _ hws) (hkz _ hws)
        rw [hws] at hR
        have b5 : (c.kind == 5) = true := by simp [e5]
        refine sB Tryz.func78 Tryz.ntmps78 ?_
        intro hbox htok
        simp only at hbox htok
        apply AL.start
        try (simp [e1, b1, e10, b10, e8, b8, e9, b9, e3, b3, e4, b4, b5])
        repeat (first | (refine sR ?_; simp [e1, b1, e10, b10, e8, b8, e9, b9, e3, b3, e4, b4, b5]) | (refine sC ?_; simp [e1, b1, e10, b10, e8, b8, e9, b9, e3, b3, e4, b4, b5]) | (refine sX ?_; simp only [AU, ↓reduceIte]))
        refine Stop.data ?_
        refine Stop.of_d (hb _ _) ?_
        simp
        try (simp)
        repeat (first | (refine sR ?_; simp) | (refine sC ?_; simp) | (refine sX ?_; simp only [AU, ↓reduceIte]))
        refine sT ?_
        try simp only [AU]
        refine ⟨by simp, sF hbox htok (fun _ h => h) (Nat.le_refl _) ?_⟩
        simp [packA, hR]
      have b5 : (c.kind == 5) = false := by simp [e5]
      by_cases e6 : c.kind = 6
      · have hws : wdsR c.kind c.num = [fRep ++ digR c.num] := by rw [wdsR, if_neg e3, if_neg e4, if_neg e5, if_pos e6]
        have hb := hbl [fRep ++ digR c.num] (Nat.le_refl 1) (by show 1 ≤ 3; omega) (hwz _ hws) (hkz _ hws)
        rw [hws] at hR
        have b6 : (c.kind == 6) = true := by simp [e6]
        have hdg := digits_c c.num (by have := hf.num e6; omega) (by have := hf.num e6; omega)
        have hdz := digR_size c.num
        refine sB Tryz.func78 Tryz.ntmps78 ?_
        intro hbox htok
        simp only at hbox htok
        apply AL.start
        try (simp [e1, b1, e10, b10, e8, b8, e9, b9, e3, b3, e4, b4, e5, b5, b6])
        repeat (first | (refine sR ?_; simp [e1, b1, e10, b10, e8, b8, e9, b9, e3, b3, e4, b4, e5, b5, b6]) | (refine sC ?_; simp [e1, b1, e10, b10, e8, b8, e9, b9, e3, b3, e4, b4, e5, b5, b6]) | (refine sX ?_; simp only [AU, ↓reduceIte]))
        refine Stop.of_d (hdg _ _) ?_
        simp
        try (simp)
        repeat (refine sR ?_; simp)
        refine ⟨by (simp only [bsz, ByteArray.size_append, List.size_toArray, List.length_cons, List.length_nil]; omega), ?_⟩
        refine Stop.data ?_
        refine Stop.of_d (hb _ _) ?_
        simp
        try (simp)
        repeat (first | (refine sR ?_; simp) | (refine sC ?_; simp) | (refine sX ?_; simp only [AU, ↓reduceIte]))
        refine sT ?_
        try simp only [AU]
        refine ⟨by simp, sF hbox htok (fun _ h => h) (Nat.le_refl _) ?_⟩
        simp [packA, hR]
      have b6 : (c.kind == 6) = false := by simp [e6]
      have hws : wdsR c.kind c.num = kwTry := by rw [wdsR, if_neg e3, if_neg e4, if_neg e5, if_neg e6]
      have hb := hbl kwTry (by decide) (by decide) (hwz _ hws) (hkz _ hws)
      rw [hws] at hR
      refine sB Tryz.func78 Tryz.ntmps78 ?_
      intro hbox htok
      simp only at hbox htok
      apply AL.start
      try (simp [e1, b1, e10, b10, e8, b8, e9, b9, e3, b3, e4, b4, e5, b5, e6, b6])
      repeat (first | (refine sR ?_; simp [e1, b1, e10, b10, e8, b8, e9, b9, e3, b3, e4, b4, e5, b5, e6, b6]) | (refine sC ?_; simp [e1, b1, e10, b10, e8, b8, e9, b9, e3, b3, e4, b4, e5, b5, e6, b6]) | (refine sX ?_; simp only [AU, ↓reduceIte]))
      refine Stop.data ?_
      refine Stop.of_d (hb _ _) ?_
      simp
      try (simp)
      repeat (first | (refine sR ?_; simp) | (refine sC ?_; simp) | (refine sX ?_; simp only [AU, ↓reduceIte]))
      refine sT ?_
      try simp only [AU]
      refine ⟨by simp, sF hbox htok (fun _ h => h) (Nat.le_refl _) ?_⟩
      simp [packA, hR]
    refine ⟨hL, ?_⟩
    intro tok nt box nb
    have hR := fmC_eq true ind c
    have hszt := hsz true
    by_cases e2 : c.kind = 2
    · rw [if_pos (by simp [e2])] at hR
      refine sB Tryz.func43 Tryz.ntmps43 ?_
      intro hbox htok
      simp only at hbox htok
      apply AL.start
      try (simp [e2])
      repeat (first | (refine sR ?_; simp [e2]) | (refine sC ?_; simp [e2]) | (refine sX ?_; simp only [AU, ↓reduceIte]))
      refine sN ?_
      refine AL.loopT (stBq c ind nb box tok nt) (fun i => i ≤ c.kids.length) (fun i => c.kids.length - i) 0 (Nat.zero_le _) (Weaks.mk (Nat.le_refl _) rfl (by simp [ToL, lk, fmS]) (by simp [BoxL, lk])) ?_
      rintro i S hi2 hS
      simp only [stBq] at hS
      subst hS
      have hw := sW (i := i) (by omega)
      have hle := fmS_le ind c.kids i
      by_cases hlt : i < c.kids.length
      · have ihx := (ih _ (List.getElem_mem hlt) ind (by have := hdk _ (List.getElem_mem hlt); omega)).1
        have ht2 := fmS_take ind hlt
        have ht3 := fmS_le ind c.kids (i + 1)
        rw [ht2, ByteArray.size_append] at ht3
        rw [hR] at hszt
        try (simp [hlt])
        repeat (refine sR ?_; simp [hlt])
        refine sC ?_
        simp
        try (simp [hlt, Cm.cells_eq])
        repeat (refine sR ?_; simp [hlt, Cm.cells_eq])
        generalize c.kids[i] = x at *
        refine Stop.of_d (ihx _ _) ?_
        simp
        try (simp [hw])
        repeat (refine sR ?_; simp [hw])
        refine ⟨by omega, ?_⟩
        try (simp [hw])
        repeat (first | (refine sR ?_; simp [hw]) | (refine sC ?_; simp [hw]) | (refine sX ?_; simp only [AU, ↓reduceIte]))
        refine sE ?_
        exact ⟨i + 1, hlt, by omega, Weaks.mk (Nat.le_refl _) rfl (by simp [ToL, lk, ht2]) (by simp [BoxL, lk])⟩
      · have : i = c.kids.length := by omega
        subst this
        rw [List.take_length]
        try (simp [hlt])
        repeat (refine sR ?_; simp [hlt])
        refine sC ?_
        simp
        refine sX ?_
        simp only [AU, ↓reduceIte]
        try (simp)
        repeat (refine sR ?_; simp)
        refine sT ?_
        try simp only [AU]
        refine ⟨by simp, sF hbox htok (fun _ h => h) (Nat.le_refl _) ?_⟩
        simp [packA, hR]
    · rw [if_neg (by simp [e2])] at hR
      have hR2 := fmC_eq false ind c
      rw [if_neg (by simp)] at hR2
      rw [← hR2] at hR
      have b2 : (c.kind != 2) = true := by simp [e2]
      refine sB Tryz.func43 Tryz.ntmps43 ?_
      intro hbox htok
      simp only at hbox htok
      apply AL.start
      try (simp [e2, b2])
      repeat (first | (refine sR ?_; simp [e2, b2]) | (refine sC ?_; simp [e2, b2]) | (refine sX ?_; simp only [AU, ↓reduceIte]))
      refine Stop.of_d (hL _ _) ?_
      simp
      try (simp)
      repeat (first | (refine sR ?_; simp) | (refine sC ?_; simp) | (refine sX ?_; simp only [AU, ↓reduceIte]))
      refine sT ?_
      try simp only [AU]
      refine ⟨by simp, sF hbox htok (fun _ h => h) (Nat.le_refl _) ?_⟩
      simp [packA, hR]
theorem fmPs_le (l : List Pr) (i : Nat) : (fmPs (l.take i)).size ≤ (fmPs l).size := by
  conv => rhs; rw [← List.take_append_drop i l, fmPs_app]
  exact Sub_size_le
def stFmt (p : List Pr) (nb : Nat) (box : Nat → Option (List (List AV))) (tok : Nat → Bool) (nt : Nat) (i : Nat) : AState :=
  ⟨tl [(6, I i), (5, Sb (fmPs (p.take i))), (1, .ptr (nb + 1) 0 0)], lb nb box [(1, [[.d (prs p)]])], tok, nt⟩
set_option maxRecDepth 100000 in
theorem format46_c (p : List Pr) (hp : PrsOk p) (tok : Nat → Bool) (nt : Nat) : DCall Tryz.prog 14 [prsAv p] tok nt (.tup [Sb (fmtR p).1, I (fmtR p).2]) tok nt := by
  intro box nb
  have hsh := shape46_c p hp
  have hN : fmtR p = if (faultR p [] false).2 ≠ 0 then (⟨#[]⟩, (faultR p [] false).2) else (fmPs p, 0) := rfl
  have hfm := @fault_fm p
  have hlen := hp.len
  generalize faultR p [] false = F at *
  refine sB Tryz.func14 Tryz.ntmps14 ?_
  intro hbox htok
  simp only at hbox htok
  apply AL.start
  try (simp)
  repeat (refine sR ?_; simp)
  refine Stop.of_d (hsh _ _) ?_
  simp
  by_cases he : F.2 = 0
  · rw [if_neg (by simp [he])] at hN
    obtain ⟨hl, hq⟩ := hfm he
    have be : (F.2 != 0) = false := by simp [he]
    try (simp [he, be])
    repeat (first | (refine sR ?_; simp [he, be]) | (refine sC ?_; simp [he, be]) | (refine sX ?_; simp only [AU, ↓reduceIte]))
    have hall := fmPs_size p hq
    refine sN ?_
    refine AL.loopT (stFmt p nb box tok nt) (fun i => i ≤ p.length) (fun i => p.length - i) 0 (Nat.zero_le _) (Weaks.mk (Nat.le_refl _) rfl (by simp [ToL, lk, fmPs]) (by simp [BoxL, lk])) ?_
    rintro i S hi2 hS
    simp only [stFmt] at hS
    subst hS
    have hw := sW (i := i) (by omega)
    have hle := fmPs_le p i
    by_cases hlt : i < p.length
    · obtain ⟨q1, q2, q3, q4⟩ := hq _ (List.getElem_mem hlt)
      have hx := (fm46_c _ p[i].body (Nat.lt_succ_self _) q4 (by omega) 1 (by omega)).2
      have ht2 := fmPs_take hlt
      have ht3 := fmPs_le p (i + 1)
      rw [ht2, fmP] at ht3
      simp only [ByteArray.size_append, lineR_size] at ht3
      try (simp [hlt])
      repeat (refine sR ?_; simp [hlt])
      refine sC ?_
      simp
      try (simp [hlt])
      repeat (refine sR ?_; simp [hlt])
      generalize p[i] = q at *
      have z1 : fPro.size = 10 := rfl
      have z2 : fOpen.size = 2 := rfl
      refine ⟨by (simp only [bsz, ByteArray.size_append, List.size_toArray, List.length_cons, List.length_nil]; omega), by (simp only [bsz, ByteArray.size_append, List.size_toArray, List.length_cons, List.length_nil]; omega), by (simp only [bsz, ByteArray.size_append, List.size_toArray, List.length_cons, List.length_nil]; omega), ?_⟩
      refine Stop.of_d (hx _ _) ?_
      simp
      try (simp [hw])
      repeat (refine sR ?_; simp [hw])
      refine ⟨by (simp only [bsz, ByteArray.size_append, List.size_toArray, List.length_cons, List.length_nil]; omega), by (simp only [bsz, ByteArray.size_append, List.size_toArray, List.length_cons, List.length_nil]; omega), ?_⟩
      try (simp [hw])
      repeat (first | (refine sR ?_; simp [hw]) | (refine sC ?_; simp [hw]) | (refine sX ?_; simp only [AU, ↓reduceIte]))
      refine sE ?_
      exact ⟨i + 1, hlt, by omega, Weaks.mk (Nat.le_refl _) rfl (by simp [ToL, lk, ht2, fmP, lineR, padR, fPro, eOpen, eClose, ByteArray.append_assoc, bEmpty_app]) (by simp [BoxL, lk])⟩
    · have : i = p.length := by omega
      subst this
      rw [List.take_length]
      try (simp [hlt])
      repeat (refine sR ?_; simp [hlt])
      refine sC ?_
      simp
      refine sX ?_
      simp only [AU, ↓reduceIte]
      try (simp)
      repeat (refine sR ?_; simp)
      refine sT ?_
      try simp only [AU]
      refine ⟨by simp, sF hbox htok (fun _ h => h) (Nat.le_refl _) ?_⟩
      simp [packA, hN]
  · rw [if_pos he] at hN
    have be : (F.2 != 0) = true := by simp [he]
    try (simp [be])
    repeat (first | (refine sR ?_; simp [be]) | (refine sC ?_; simp [be]) | (refine sX ?_; simp only [AU, ↓reduceIte]))
    refine sT ?_
    try simp only [AU]
    refine ⟨by simp, sF hbox htok (fun _ h => h) (Nat.le_refl _) ?_⟩
    simp [packA, hN]
end Go.AM
namespace Go.Proofs
open Go.Shelf
open Go.RowKit in
open Go.RowKit in
open Go.RowKit in
def Tryz.lays171_ren : Go.Shelf.Ren := ⟨fun | 171 => 116 | 243 => 152 | 246 => 161 | 283 => 164 | 284 => 165 | 285 => 166 | 286 => 167 | 129 => 108 | 317 => 168 | 318 => 169 | 319 => 170 | 320 => 171 | 337 => 172 | 338 => 173 | n => n, fun | 3 => 3 | 9 => 9 | 2 => 2 | 4 => 4 | 171 => 231 | 0 => 0 | 53 => 175 | 37 => 60 | 5 => 5 | 173 => 233 | 212 => 237 | 51 => 173 | 20 => 20 | 213 => 238 | 46 => 136 | 232 => 239 | 233 => 240 | n => n, fun | 17 => 3 | 18 => 4 | 19 => 5 | n => n⟩
theorem Tryz.lays171 : Go.Proofs.Lays.n171 Tryz.prog Tryz.lays171_ren := {
  mixed := by kernel_rfl
  f129 := Tryz.func108.trans (congrArg some (by kernel_rfl))
  f171 := Tryz.func116.trans (congrArg some (by kernel_rfl))
  f243 := Tryz.func152.trans (congrArg some (by kernel_rfl))
  f246 := Tryz.func161.trans (congrArg some (by kernel_rfl))
  f283 := Tryz.func164.trans (congrArg some (by kernel_rfl))
  f284 := Tryz.func165.trans (congrArg some (by kernel_rfl))
  f285 := Tryz.func166.trans (congrArg some (by kernel_rfl))
  f286 := Tryz.func167.trans (congrArg some (by kernel_rfl))
  f317 := Tryz.func168.trans (congrArg some (by kernel_rfl))
  f318 := Tryz.func169.trans (congrArg some (by kernel_rfl))
  f319 := Tryz.func170.trans (congrArg some (by kernel_rfl))
  f320 := Tryz.func171.trans (congrArg some (by kernel_rfl))
  f337 := Tryz.func172.trans (congrArg some (by kernel_rfl))
  f338 := Tryz.func173.trans (congrArg some (by kernel_rfl))
  t0 := Tryz.underlying0
  a0 := Tryz.isAgg0
  z0 := Tryz.sizeOf0
  v0 := Tryz.zeroValue0
  t2 := Tryz.underlying2
  a2 := Tryz.isAgg2
  z2 := Tryz.sizeOf2
  v2 := Tryz.zeroValue2
  t3 := Tryz.underlying3
  a3 := Tryz.isAgg3
  z3 := Tryz.sizeOf3
  v3 := Tryz.zeroValue3
  t4 := Tryz.underlying4
  a4 := Tryz.isAgg4
  z4 := Tryz.sizeOf4
  v4 := Tryz.zeroValue4
  t5 := Tryz.underlying5
  a5 := Tryz.isAgg5
  z5 := Tryz.sizeOf5
  v5 := Tryz.zeroValue5
  t9 := Tryz.underlying9
  a9 := Tryz.isAgg9
  z9 := Tryz.sizeOf9
  v9 := Tryz.zeroValue9
  t20 := Tryz.underlying20
  a20 := Tryz.isAgg20
  z20 := Tryz.sizeOf20
  v20 := Tryz.zeroValue20
  t37 := Tryz.underlying60
  a37 := Tryz.isAgg60
  z37 := Tryz.sizeOf60
  v37 := Tryz.zeroValue60
  t46 := Tryz.underlying136
  a46 := Tryz.isAgg136
  z46 := Tryz.sizeOf136
  v46 := Tryz.zeroValue136
  t51 := Tryz.underlying173
  a51 := Tryz.isAgg173
  z51 := Tryz.sizeOf173
  v51 := Tryz.zeroValue173
  t53 := Tryz.underlying175
  a53 := Tryz.isAgg175
  z53 := Tryz.sizeOf175
  v53 := Tryz.zeroValue175
  t171 := Tryz.underlying231
  a171 := Tryz.isAgg231
  z171 := Tryz.sizeOf231
  v171 := Tryz.zeroValue231
  t173 := Tryz.underlying233
  a173 := Tryz.isAgg233
  z173 := Tryz.sizeOf233
  v173 := Tryz.zeroValue233
  t212 := Tryz.underlying237
  a212 := Tryz.isAgg237
  z212 := Tryz.sizeOf237
  v212 := Tryz.zeroValue237
  t213 := Tryz.underlying238
  a213 := Tryz.isAgg238
  z213 := Tryz.sizeOf238
  t232 := Tryz.underlying239
  a232 := Tryz.isAgg239
  z232 := Tryz.sizeOf239
  v232 := Tryz.zeroValue239
  t233 := Tryz.underlying240
  a233 := Tryz.isAgg240
  z233 := Tryz.sizeOf240
  v233 := Tryz.zeroValue240
  g17 := by kernel_rfl
  g18 := by kernel_rfl
  g19 := by kernel_rfl }
open Go.RowKit Go.Sort Go.Lib in
theorem Tryz.strconv_Itoa_small (i : Nat) (hi : i < 100) (w : World) :
    Calls Tryz.prog 116 #[.int .i64 i] w fun e w' => e = .returned (.string ⟨(Lib.decDigits i).toArray⟩) ∧ w' = w := Any.strconv_Itoa_small Tryz.lays171 i hi w
def Tryz.lays105_ren : Go.Shelf.Ren := ⟨fun | 105 => 76 | 212 => 113 | 99 => 37 | 165 => 114 | 166 => 33 | 170 => 34 | 169 => 35 | 263 => 149 | 264 => 150 | 206 => 72 | 240 => 70 | 241 => 151 | 276 => 110 | 277 => 160 | n => n, fun | 9 => 9 | 3 => 3 | 4 => 4 | 20 => 20 | 0 => 0 | 46 => 136 | 109 => 185 | 5 => 5 | 72 => 63 | 76 => 67 | 51 => 173 | 146 => 217 | 53 => 175 | 148 => 219 | 70 => 61 | 37 => 60 | 75 => 66 | 127 => 141 | 164 => 181 | 80 => 70 | n => n, fun | n => n⟩
theorem Tryz.lays105 : Go.Proofs.Lays.n105 Tryz.prog Tryz.lays105_ren := {
  mixed := by kernel_rfl
  f99 := Tryz.func37.trans (congrArg some (by kernel_rfl))
  f105 := Tryz.func76.trans (congrArg some (by kernel_rfl))
  f165 := Tryz.func114.trans (congrArg some (by kernel_rfl))
  f166 := Tryz.func33.trans (congrArg some (by kernel_rfl))
  f169 := Tryz.func35.trans (congrArg some (by kernel_rfl))
  f170 := Tryz.func34.trans (congrArg some (by kernel_rfl))
  f206 := Tryz.func72.trans (congrArg some (by kernel_rfl))
  f212 := Tryz.func113.trans (congrArg some (by kernel_rfl))
  f240 := Tryz.func70.trans (congrArg some (by kernel_rfl))
  f241 := Tryz.func151.trans (congrArg some (by kernel_rfl))
  f263 := Tryz.func149.trans (congrArg some (by kernel_rfl))
  f264 := Tryz.func150.trans (congrArg some (by kernel_rfl))
  f276 := Tryz.func110.trans (congrArg some (by kernel_rfl))
  f277 := Tryz.func160.trans (congrArg some (by kernel_rfl))
  t0 := Tryz.underlying0
  a0 := Tryz.isAgg0
  z0 := Tryz.sizeOf0
  v0 := Tryz.zeroValue0
  t3 := Tryz.underlying3
  a3 := Tryz.isAgg3
  z3 := Tryz.sizeOf3
  v3 := Tryz.zeroValue3
  t4 := Tryz.underlying4
  a4 := Tryz.isAgg4
  z4 := Tryz.sizeOf4
  v4 := Tryz.zeroValue4
  t5 := Tryz.underlying5
  a5 := Tryz.isAgg5
  z5 := Tryz.sizeOf5
  v5 := Tryz.zeroValue5
  t9 := Tryz.underlying9
  a9 := Tryz.isAgg9
  z9 := Tryz.sizeOf9
  v9 := Tryz.zeroValue9
  t20 := Tryz.underlying20
  a20 := Tryz.isAgg20
  z20 := Tryz.sizeOf20
  v20 := Tryz.zeroValue20
  t37 := Tryz.underlying60
  a37 := Tryz.isAgg60
  z37 := Tryz.sizeOf60
  v37 := Tryz.zeroValue60
  t46 := Tryz.underlying136
  a46 := Tryz.isAgg136
  z46 := Tryz.sizeOf136
  v46 := Tryz.zeroValue136
  t51 := Tryz.underlying173
  a51 := Tryz.isAgg173
  z51 := Tryz.sizeOf173
  v51 := Tryz.zeroValue173
  t53 := Tryz.underlying175
  a53 := Tryz.isAgg175
  z53 := Tryz.sizeOf175
  v53 := Tryz.zeroValue175
  t70 := Tryz.underlying61
  a70 := Tryz.isAgg61
  z70 := Tryz.sizeOf61
  v70 := Tryz.zeroValue61
  t72 := Tryz.underlying63
  a72 := Tryz.isAgg63
  z72 := Tryz.sizeOf63
  v72 := Tryz.zeroValue63
  t75 := Tryz.underlying66
  a75 := Tryz.isAgg66
  z75 := Tryz.sizeOf66
  v75 := Tryz.zeroValue66
  t76 := Tryz.underlying67
  a76 := Tryz.isAgg67
  z76 := Tryz.sizeOf67
  v76 := Tryz.zeroValue67
  t109 := Tryz.underlying185
  a109 := Tryz.isAgg185
  z109 := Tryz.sizeOf185
  v109 := Tryz.zeroValue185
  t127 := Tryz.underlying141
  a127 := Tryz.isAgg141
  z127 := Tryz.sizeOf141
  v127 := Tryz.zeroValue141
  t146 := Tryz.underlying217
  a146 := Tryz.isAgg217
  z146 := Tryz.sizeOf217
  v146 := Tryz.zeroValue217
  t148 := Tryz.underlying219
  a148 := Tryz.isAgg219
  z148 := Tryz.sizeOf219
  v148 := Tryz.zeroValue219
  t164 := Tryz.underlying181
  a164 := Tryz.isAgg181
  z164 := Tryz.sizeOf181
  v164 := Tryz.zeroValue181 }
theorem Tryz.Builder_Extra_105 : Builder.Extra Tryz.prog Tryz.lays105_ren := {
  sizeBuilder := by kernel_rfl
  liesBuilder := by kernel_rfl
  t5 := Tryz.underlying5
  a5 := Tryz.isAgg5
  z5 := Tryz.sizeOf5
  v5 := Tryz.zeroValue5
  infoByte := by kernel_rfl
  cellsByte := by kernel_rfl
  sizeByte := by kernel_rfl
  neB5 := by decide }
open Go.RowKit Go.Lib in
theorem Tryz.strings_Repeat (s : ByteArray) (c : Nat) (w : World) (hc : c ≤ 9223372036854775807) (hlen : s.size * c ≤ 140737488355328) :
    Calls Tryz.prog 76 #[.string s, .int .i64 c] w fun e w' => e = .returned (.string ⟨(Lib.repeatL s.data.toList c).toArray⟩) ∧ Below w.heap.size w w' := Any.strings_Repeat Tryz.lays105 Tryz.Builder_Extra_105 s c w hc hlen
end Go.Proofs
namespace Go.AM
open Go Go.Proofs
abbrev bufA (t : Nat) (s : ByteArray) : AV := .buf 5 t (bytesD s)
structure Wst (T : TypeId) (k : Nat) (s : ByteArray) (x y : AV) (o : Own) : Prop where
  x : x = .here k T ∨ x = .ptr k 0 0
  y : (s = ⟨#[]⟩ ∧ y = nilS ∧ o = .full) ∨ ∃ t, o = .tok t ∧ y = bufA t s
structure Fol (o : Own) (tok : Nat → Bool) (nt : Nat) (o' : Own) (tok' : Nat → Bool) (nt' : Nat) : Prop where
  le : nt ≤ nt'
  tk : ∀ mtok nt0 os, TK mtok nt0 tok nt (o :: os) → TK mtok nt0 tok' nt' (o' :: os)
  live : o'.liveP tok'
theorem Fol.trans {o o' o'' : Own} {tok tok' tok'' : Nat → Bool} {nt nt' nt'' : Nat} (h : Fol o tok nt o' tok' nt') (k : Fol o' tok' nt' o'' tok'' nt'') : Fol o tok nt o'' tok'' nt'' :=
  ⟨Nat.le_trans h.le k.le, fun m n os x => k.tk m n os (h.tk m n os x), k.live⟩
theorem Fol.refl {o : Own} {tok : Nat → Bool} {nt : Nat} (h : o.liveP tok) : Fol o tok nt o tok nt := ⟨Nat.le_refl _, fun _ _ _ x => x, h⟩
theorem Fol.step {o : Own} {tok : Nat → Bool} {nt : Nat} : Fol o tok nt (.tok nt) (upd (o.kill tok) nt true) (nt + 1) := ⟨Nat.le_succ _, fun _ _ _ x => x.app, by simp [Own.liveP, upd_same]⟩
def QW (k : Nat) (s : ByteArray) (v0 : AV) (o : Own) (box : Nat → Option (List (List AV))) (nb : Nat) (tok : Nat → Bool) (nt : Nat) (v : AV) (m : AMem) : Prop :=
  v = v0 ∧ ∃ t tok' nt', Fol o tok nt (.tok t) tok' nt' ∧ m = ⟨upd box k (some [[.ptr k 0 0, bufA t s]]), nb, tok', nt'⟩
theorem bytesD_app (a b : ByteArray) : bytesD (a ++ b) = bytesD a ++ bytesD b := by simp [bytesD]
set_option maxRecDepth 100000 in
theorem writeS_c (T : TypeId) (hlies : liesAt Tryz.prog Tryz.prog.depth T (2 / Tryz.prog.cellsOf T) 0 63 1 = true) (k nb : Nat) (box : Nat → Option (List (List AV))) (tok : Nat → Bool) (nt : Nat) (x y : AV) (o : Own) (s d : ByteArray) (hs : Wst T k s x y o)
    (hk : box k = some [[x, y]]) (hl : o.liveP tok) (hd : 0 < d.size) (hz : s.size + d.size ≤ 1000000000000) :
    ACalls Tryz.prog 33 [.ptr k 0 0, Sb d] ⟨box, nb, tok, nt⟩ (QW k (s ++ d) (.tup [I d.size, .d (.raw .nilIface)]) o box nb tok nt) := by
  have hc := fun box' nb' tok' nt' h => copy_c T hlies k nb' box' tok' nt' x y hs.x h
  refine sB Tryz.func33 Tryz.ntmps33 ?_
  intro hbox htok
  simp only at hbox htok
  apply AL.start
  have kn := key_lt hbox hk
  try (simp)
  repeat (first | (refine sR ?_; simp) | (refine sC ?_; simp) | (refine sX ?_; simp only [AU, ↓reduceIte]))
  refine Stop.of_a (hc _ _ _ _ (by simp only; rw [lb_out kn]; exact hk)) ?_
  rintro v m ⟨rfl, rfl⟩
  rcases hs.y with ⟨rfl, rfl, rfl⟩ | ⟨t, rfl, rfl⟩
  · try (simp [lb_out kn, upd_lb_out kn, upd_same, upd_upd])
    repeat (first | (refine sR ?_; simp [lb_out kn, upd_lb_out kn, upd_same, upd_upd]) | (refine sC ?_; simp [lb_out kn, upd_lb_out kn, upd_same, upd_upd]) | (refine sX ?_; simp only [AU, ↓reduceIte]))
    refine ⟨⟨hd, by omega⟩, ?_⟩
    try (simp [lb_out kn, upd_lb_out kn, upd_same, upd_upd])
    repeat (first | (refine sR ?_; simp [lb_out kn, upd_lb_out kn, upd_same, upd_upd]) | (refine sC ?_; simp [lb_out kn, upd_lb_out kn, upd_same, upd_upd]) | (refine sX ?_; simp only [AU, ↓reduceIte]))
    refine sT ?_
    try simp only [AU]
    refine ⟨by simp, (Fin.gen (av := .tup [I d.size, .d (.raw .nilIface)]) (tok' := upd tok nt true) (nt' := nt + 1) (by simp [resAs, resA, lk]; rfl) (by rw [← upd_lb_out kn, hbox]) (by omega) (Nat.le_refl _) (fun t ht => ⟨ht, .inl rfl⟩) (outG (by simp [lb_out kn, upd_same]; exact .buf trivial)) (by simp [packA])).mono fun v m hq => ?_⟩
    exact ⟨hq.1, nt, _, _, Fol.step, by rw [hq.2, bEmpty_app]; rfl⟩
  · have ht : tok t = true := hl
    have hbl := bytesD_len s
    try (simp [lb_out kn, upd_lb_out kn, upd_same, upd_upd])
    repeat (first | (refine sR ?_; simp [lb_out kn, upd_lb_out kn, upd_same, upd_upd]) | (refine sC ?_; simp [lb_out kn, upd_lb_out kn, upd_same, upd_upd]) | (refine sX ?_; simp only [AU, ↓reduceIte]))
    refine ⟨⟨by omega, ht⟩, ?_⟩
    try (simp [lb_out kn, upd_lb_out kn, upd_same, upd_upd])
    repeat (first | (refine sR ?_; simp [lb_out kn, upd_lb_out kn, upd_same, upd_upd]) | (refine sC ?_; simp [lb_out kn, upd_lb_out kn, upd_same, upd_upd]) | (refine sX ?_; simp only [AU, ↓reduceIte]))
    refine sT ?_
    try simp only [AU]
    refine ⟨by simp, (Fin.gen (av := .tup [I d.size, .d (.raw .nilIface)]) (tok' := upd (upd tok t false) nt true) (nt' := nt + 1) (by simp [resAs, resA, lk]; rfl) (by rw [← upd_lb_out kn, hbox]) (by omega) (Nat.le_refl _) (fun t ht => ⟨ht, .inl rfl⟩) (outG (by simp [lb_out kn, upd_same]; exact .buf trivial)) (by simp [packA])).mono fun v m hq => ?_⟩
    exact ⟨hq.1, nt, _, _, Fol.step, by rw [hq.2]; simp only [bufA, bytesD_app]; rfl⟩
end Go.AM
namespace Go.AM
open Go Go.Proofs
abbrev Bs := List UInt8
abbrev bsOf (s : ByteArray) : Bs := s.data.toList
abbrev ofBs (l : Bs) : ByteArray := ⟨l.toArray⟩
theorem ofBs_bsOf (s : ByteArray) : ofBs (bsOf s) = s := by cases s; simp
theorem bsOf_ofBs (l : Bs) : bsOf (ofBs l) = l := by simp
theorem bsOf_inj {a b : ByteArray} (h : bsOf a = bsOf b) : a = b := by rw [← ofBs_bsOf a, h, ofBs_bsOf]
def insU (x : ByteArray) : List ByteArray → List ByteArray
  | [] => [x]
  | y :: r => if bsOf x = bsOf y then y :: r else if bsOf x < bsOf y then x :: y :: r else y :: insU x r
def sortU (l : List ByteArray) : List ByteArray := l.foldr insU []
def StrictU (l : List ByteArray) : Prop := l.Pairwise fun x y => bsOf x < bsOf y
theorem bs_trans {a b c : Bs} (h : a < b) (k : b < c) : a < c := List.lt_trans h k
theorem bs_irr (a : Bs) : ¬ a < a := List.lt_irrefl a
theorem bs_tri {a b : Bs} (h : a ≠ b) (k : ¬ a < b) : b < a := by
  rcases List.le_iff_lt_or_eq.1 (List.not_lt.1 k) with h1 | h1
  · exact h1
  · exact absurd h1.symm h
theorem mem_insU {x y : ByteArray} {l : List ByteArray} : y ∈ insU x l ↔ y = x ∨ y ∈ l := by
  induction l with
  | nil => simp [insU]
  | cons z r ih =>
    rw [insU]
    split
    · rename_i h
      have := bsOf_inj h
      subst this
      simp
    · split
      · simp
      · simp only [List.mem_cons, ih]
        constructor
        · rintro (h | h | h) <;> simp [h]
        · rintro (h | h | h) <;> simp [h]
theorem insU_strict {x : ByteArray} {l : List ByteArray} (h : StrictU l) : StrictU (insU x l) := by
  induction l with
  | nil => simp [insU, StrictU]
  | cons z r ih =>
    obtain ⟨h1, h2⟩ := List.pairwise_cons.1 h
    rw [insU]
    split
    · exact h
    · rename_i hne
      split
      · rename_i hlt
        exact List.pairwise_cons.2 ⟨fun y hy => by
          rcases List.mem_cons.1 hy with rfl | hy
          · exact hlt
          · exact bs_trans hlt (h1 y hy), h⟩
      · rename_i hlt
        refine List.pairwise_cons.2 ⟨fun y hy => ?_, ih h2⟩
        rcases mem_insU.1 hy with rfl | hy
        · exact bs_tri hne hlt
        · exact h1 y hy
theorem sortU_strict (l : List ByteArray) : StrictU (sortU l) := by
  induction l with
  | nil => exact List.Pairwise.nil
  | cons x r ih => exact insU_strict ih
theorem mem_sortU {l : List ByteArray} {y : ByteArray} : y ∈ sortU l ↔ y ∈ l := by
  induction l with
  | nil => simp [sortU]
  | cons x r ih =>
    have : sortU (x :: r) = insU x (sortU r) := rfl
    rw [this, mem_insU, ih, List.mem_cons]
theorem StrictU.nodup {l : List ByteArray} (h : StrictU l) : l.Nodup := h.imp fun {a b} hab e => by subst e; exact bs_irr _ hab
theorem strict_one {l k : List ByteArray} (hl : StrictU l) (hk : StrictU k) (h : ∀ y, y ∈ l ↔ y ∈ k) : l = k := by
  induction l generalizing k with
  | nil =>
    cases k with
    | nil => rfl
    | cons y r => exact absurd ((h y).2 (by simp)) (by simp)
  | cons x r ih =>
    cases k with
    | nil => exact absurd ((h x).1 (by simp)) (by simp)
    | cons y s =>
      obtain ⟨h1, h2⟩ := List.pairwise_cons.1 hl
      obtain ⟨k1, k2⟩ := List.pairwise_cons.1 hk
      have exy : x = y := by
        rcases List.mem_cons.1 ((h x).1 (by simp)) with e | e
        · exact e
        · rcases List.mem_cons.1 ((h y).2 (by simp)) with e2 | e2
          · exact e2.symm
          · exact absurd (bs_trans (k1 _ e) (h1 _ e2)) (bs_irr _)
      subst exy
      congr 1
      refine ih h2 k2 fun z => ⟨fun hz => ?_, fun hz => ?_⟩
      · rcases List.mem_cons.1 ((h z).1 (List.mem_cons_of_mem _ hz)) with e | e
        · subst e; exact absurd (h1 _ hz) (bs_irr _)
        · exact e
      · rcases List.mem_cons.1 ((h z).2 (List.mem_cons_of_mem _ hz)) with e | e
        · subst e; exact absurd (k1 _ hz) (bs_irr _)
        · exact e
theorem sortU_len_le {l k : List ByteArray} (h : ∀ y ∈ l, y ∈ k) : (sortU l).length ≤ k.length :=
  (sortU_strict l).nodup.length_le_of_subset fun y hy => h y (mem_sortU.1 hy)
mutual
def uC (p : List Pr) (kn : List (List ByteArray)) : Cm → List ByteArray
  | .mk k s _ c => (if k = 1 then [s] else if k = 10 then kn.getD (placeR p s).toNat [] else []) ++ uL p kn c
def uL (p : List Pr) (kn : List (List ByteArray)) : List Cm → List ByteArray
  | [] => []
  | x :: r => uC p kn x ++ uL p kn r
end
def uOwn (p : List Pr) (kn : List (List ByteArray)) (c : Cm) : List ByteArray := if c.kind = 1 then [c.name] else if c.kind = 10 then kn.getD (placeR p c.name).toNat [] else []
theorem uC_eq (p : List Pr) (kn : List (List ByteArray)) (c : Cm) : uC p kn c = uOwn p kn c ++ uL p kn c.kids := by cases c; rw [uC]; rfl
theorem uL_app (p : List Pr) (kn : List (List ByteArray)) : ∀ l k : List Cm, uL p kn (l ++ k) = uL p kn l ++ uL p kn k
  | [], k => by rw [List.nil_append, uL, List.nil_append]
  | x :: r, k => by rw [List.cons_append, uL, uL, uL_app p kn r k, List.append_assoc]
theorem uL_take {p : List Pr} {kn : List (List ByteArray)} {l : List Cm} {i : Nat} (h : i < l.length) : uL p kn (l.take (i + 1)) = uL p kn (l.take i) ++ uC p kn l[i] := by
  rw [List.take_succ_eq_append_getElem h, uL_app, uL, uL, List.append_nil]
def knU (p : List Pr) (n : Nat) : List (List ByteArray) := (p.take n).foldl (fun kn q => kn ++ [sortU (uC p kn q.body)]) []
theorem knU_succ {p : List Pr} {n : Nat} (h : n < p.length) : knU p (n + 1) = knU p n ++ [sortU (uC p (knU p n) p[n].body)] := by
  rw [knU, List.take_succ_eq_append_getElem h, List.foldl_append]; rfl
theorem knU_len {p : List Pr} : ∀ {n : Nat}, n ≤ p.length → (knU p n).length = n
  | 0, _ => rfl
  | n + 1, h => by rw [knU_succ (by omega), List.length_append, knU_len (by omega)]; rfl
def usesR (p : List Pr) (rs : List ByteArray) (s : ByteArray) : List ByteArray × Int :=
  if (faultR p rs true).2 ≠ 0 then ([], (faultR p rs true).2) else if placeR p s < 0 then ([], 4) else ((knU p ((placeR p s).toNat + 1)).getD (placeR p s).toNat [], 0)
inductive InRules (rs : List ByteArray) : Cm → Prop
  | mk {c : Cm} (h : c.kind = 1 → c.name ∈ rs) (hk : ∀ x ∈ c.kids, InRules rs x) : InRules rs c
theorem InRules.own {rs : List ByteArray} {c : Cm} (h : InRules rs c) : c.kind = 1 → c.name ∈ rs := by cases h; assumption
theorem InRules.kid {rs : List ByteArray} {c : Cm} (h : InRules rs c) : ∀ x ∈ c.kids, InRules rs x := by cases h; assumption
theorem own_rules {p : List Pr} {rs : List ByteArray} {at' : Nat} {c : Cm} (h : ownE p rs true at' c = 0) : c.kind = 1 → c.name ∈ rs := by
  intro h1
  unfold ownE at h
  by_cases e1 : okB c = false
  · rw [if_pos e1] at h; cases h
  rw [if_neg e1, if_pos h1] at h
  by_cases e2 : nameB c.name = false
  · rw [if_pos e2] at h; cases h
  rw [if_neg e2] at h
  by_cases e3 : (true && !(memS rs c.name)) = true
  · rw [if_pos e3] at h; cases h
  · have : memS rs c.name = true := by simpa using e3
    exact memS_iff.1 this
theorem cmd_rules {p : List Pr} {rs : List ByteArray} {at' : Nat} : ∀ (n : Nat) (c : Cm), c.size < n → cmdE p rs true at' c = 0 → InRules rs c
  | 0, c, h, _ => absurd h (Nat.not_lt_zero _)
  | n + 1, c, h, he => by
    rw [cmdE_eq] at he
    split at he
    · rename_i h1; exact absurd he h1
    · rename_i h1
      exact .mk (own_rules (Decidable.not_not.1 h1)) fun x hx => cmd_rules n x (by have := Cm.kid_size hx; omega) (cmdEL_mem he x hx)
theorem uC_in {p : List Pr} {rs : List ByteArray} {kn : List (List ByteArray)} (hk : ∀ l ∈ kn, ∀ y ∈ l, y ∈ rs) : ∀ (n : Nat) (c : Cm), c.size < n → InRules rs c → ∀ y ∈ uC p kn c, y ∈ rs
  | 0, c, h, _ => absurd h (Nat.not_lt_zero _)
  | n + 1, c, h, hr => by
    have key : ∀ l : List Cm, (∀ x ∈ l, x.size < n ∧ InRules rs x) → ∀ y ∈ uL p kn l, y ∈ rs := by
      intro l
      induction l with
      | nil => intro _ y hy; simp [uL] at hy
      | cons x r ih =>
        intro hx y hy
        rw [uL, List.mem_append] at hy
        rcases hy with hy | hy
        · exact uC_in hk n x (hx x (by simp)).1 (hx x (by simp)).2 y hy
        · exact ih (fun z hz => hx z (by simp [hz])) y hy
    intro y hy
    rw [uC_eq, List.mem_append] at hy
    rcases hy with hy | hy
    · unfold uOwn at hy
      split at hy
      · rename_i h1
        simp at hy
        subst hy
        exact hr.own h1
      · split at hy
        · rw [List.getD_eq_getElem?_getD] at hy
          cases hg : kn[(placeR p c.name).toNat]? with
          | none => rw [hg] at hy; simp at hy
          | some l => rw [hg] at hy; exact hk l (List.mem_of_getElem? hg) y hy
        · simp at hy
    · exact key c.kids (fun x hx => ⟨by have := Cm.kid_size hx; omega, hr.kid x hx⟩) y hy
theorem uC_len {p : List Pr} {M : Nat} (hM : 1 ≤ M) {kn : List (List ByteArray)} (hk : ∀ l ∈ kn, l.length ≤ M) : ∀ (n : Nat) (c : Cm), c.size < n → (uC p kn c).length ≤ c.size * M
  | 0, c, h => absurd h (Nat.not_lt_zero _)
  | n + 1, c, h => by
    have key : ∀ l : List Cm, (∀ x ∈ l, x.size < n) → (uL p kn l).length ≤ Cm.sizeL l * M := by
      intro l
      induction l with
      | nil => intro _; simp [uL]
      | cons x r ih =>
        intro hx
        have h1 := uC_len (p := p) hM hk n x (hx x (by simp))
        have h2 := ih fun z hz => hx z (by simp [hz])
        rw [uL, List.length_append, Cm.sizeL, Nat.add_mul]
        omega
    have h1 := key c.kids fun x hx => by have := Cm.kid_size hx; omega
    rw [uC_eq, List.length_append, c.size_eq, Nat.add_mul]
    have h2 : (uOwn p kn c).length ≤ M := by
      unfold uOwn
      split
      · simpa using hM
      · split
        · rw [List.getD_eq_getElem?_getD]
          cases hg : kn[(placeR p c.name).toNat]? with
          | none => simp
          | some l => exact hk l (List.mem_of_getElem? hg)
        · simp
    omega
structure KnU (rs : List ByteArray) (kn : List (List ByteArray)) : Prop where
  mem : ∀ l ∈ kn, ∀ y ∈ l, y ∈ rs
  len : ∀ l ∈ kn, l.length ≤ rs.length
  strict : ∀ l ∈ kn, StrictU l
theorem valid_rules {p : List Pr} {rs : List ByteArray} (h : ∀ i (hi : i < p.length), prE p rs true i p[i] = 0) : ∀ q ∈ p, InRules rs q.body := by
  intro q hq
  obtain ⟨i, hi, rfl⟩ := List.getElem_of_mem hq
  have h4 := h i hi
  unfold prE at h4
  split at h4
  · cases h4
  · split at h4
    · cases h4
    · split at h4
      · cases h4
      · exact cmd_rules _ _ (Nat.lt_succ_self _) h4
theorem knU_ok {p : List Pr} {rs : List ByteArray} (h : ∀ q ∈ p, InRules rs q.body) : ∀ n, n ≤ p.length → KnU rs (knU p n)
  | 0, _ => ⟨by simp [knU], by simp [knU], by simp [knU]⟩
  | n + 1, hn => by
    obtain ⟨h1, h2, h3⟩ := knU_ok h n (by omega)
    rw [knU_succ (by omega)]
    have hin := uC_in (p := p) h1 _ p[n].body (Nat.lt_succ_self _) (h _ (List.getElem_mem _))
    refine ⟨fun l hl => ?_, fun l hl => ?_, fun l hl => ?_⟩
    · rcases List.mem_append.1 hl with hl | hl
      · exact h1 l hl
      · simp at hl; subst hl; exact fun y hy => hin y (mem_sortU.1 hy)
    · rcases List.mem_append.1 hl with hl | hl
      · exact h2 l hl
      · simp at hl; subst hl; exact sortU_len_le hin
    · rcases List.mem_append.1 hl with hl | hl
      · exact h3 l hl
      · simp at hl; subst hl; exact sortU_strict _
end Go.AM
namespace Go.Proofs.YtedpnmlgbjcpcaaGreatDoor.bld
open Go Go.Proofs Go.RowKit Go.Shelf
theorem cellsU8 : Tryz.prog.cellsOf 5 = 1 := by kernel_rfl
set_option maxHeartbeats 1000000 in
set_option maxRecDepth 100000 in
theorem string (T : TypeId) (b g cap : Nat) (p : Value) (cur : Array Value) (l : List UInt8) (h0 : l ≠ []) (w : World) (hbk : w.heap[b]? = some (.cells #[p, .slice (some ⟨g, 0, none⟩) l.length cap] T (0, 0))) (hg : w.heap[g]? = some (.cells cur 5 (0, 0)))
    (hnc : l.length ≤ cap) (hcm : cap ≤ maxLen) (hcs : cur.size = cap) (hcell : ∀ j x, l[j]? = some x → w.cell? ((⟨g, 0, none⟩ : Addr).add j) = some (.int .u8 x.toNat)) :
    Calls Tryz.prog 35 #[.pointer (some ⟨b, 0, none⟩)] w fun e w' => e = .returned (.string ⟨l.toArray⟩) ∧ w' = w.drew.freeze ⟨g, 0, none⟩ l.length := by
  have hl0 : l.length ≠ 0 := by simpa using h0
  have c1 : w.drew.cell? ⟨b, 1, none⟩ = some (.slice (some ⟨g, 0, none⟩) l.length cap) := by
    have : w.drew.heap[b]? = some (.cells #[p, .slice (some ⟨g, 0, none⟩) l.length cap] T (0, 0)) := hbk
    rw [Lib.cell_of_heap this]; rfl
  have hSD : (Builtin.unsafeSliceData_ #[60] 141 #[.slice (some ⟨g, 0, none⟩) l.length cap]).run Tryz.prog w.drew = .ok (.pointer (some ⟨g, 0, none⟩)) w.drew :=
    Lib.run_unsafeSliceData_row _ _ _ _ _ _ (by omega)
  have hUS : (Builtin.unsafeString_ #[141, 3] 9 #[.pointer (some ⟨g, 0, none⟩), .int .i64 l.length]).run Tryz.prog w.drew = .ok (.string ⟨l.toArray⟩) (w.drew.freeze ⟨g, 0, none⟩ l.length) := by
    refine Lib.run_unsafeString_row w.drew 141 3 9 5 Tryz.underlying141 cellsU8 g cur.size (by have hg' : w.drew.heap[g]? = some (.cells cur 5 (0, 0)) := hg; simp [World.shape?, hg']) l h0 (by omega) (by unfold maxLen at hcm; omega) ?_
    intro j x hx
    exact hcell j x hx
  have mixed : Tryz.prog.follows Departure.mixedOrders = true := by kernel_rfl
  go_enter Tryz.func35, Tryz.ntmps35
  go_wp2
  go_region_o
  all_goals (go_wp2; go_ret; exact ⟨rfl, rfl⟩)
end Go.Proofs.YtedpnmlgbjcpcaaGreatDoor.bld
namespace Go.AM
open Go Go.Proofs Go.RowKit
theorem freeze_other (w : World) (g n j : Nat) (h : j ≠ g) : (w.freeze ⟨g, 0, none⟩ n).heap[j]? = w.heap[j]? := by
  unfold World.freeze
  split
  · rfl
  · simp only [Array.getElem?_modify]
    rw [if_neg (fun e => h e.symm)]
theorem freeze_at {w : World} {g n : Nat} {cs : Array Value} {E : TypeId} {f : Nat × Nat} (h : w.heap[g]? = some (.cells cs E f)) : ∃ f', (w.freeze ⟨g, 0, none⟩ n).heap[g]? = some (.cells cs E f') := by
  unfold World.freeze
  split
  · exact ⟨f, h⟩
  · obtain ⟨lo, hi⟩ := f
    simp [Array.getElem?_modify, h]
theorem freeze_cell {w : World} {g n : Nat} {cs : Array Value} {E : TypeId} {f : Nat × Nat} (h : w.heap[g]? = some (.cells cs E f)) (a : Addr) : (w.freeze ⟨g, 0, none⟩ n).cell? a = w.cell? a := by
  by_cases e : a.block = g
  · obtain ⟨f', h'⟩ := freeze_at (n := n) h
    subst e
    simp only [World.cell?, h, h']
  · exact World.cell?_of_block (w := w) (freeze_other w g n a.block e)
theorem Le.freeze {G : Gh} {w : World} {g n f c : Nat} {cs : Array Value} {E : TypeId} {fr : Nat × Nat} (hk : G.kind g = .part f c) (hg : w.heap[g]? = some (.cells cs E fr)) : Le G w G (w.freeze ⟨g, 0, none⟩ n) where
  os := by unfold World.freeze; split <;> rfl
  tape := by unfold World.freeze; split <;> rfl
  output := by unfold World.freeze; split <;> rfl
  size := by unfold World.freeze; split <;> simp
  whole b _ h := ⟨h, freeze_other w g n b (fun e => by subst e; rw [hk] at h; cases h)⟩
  part b f c h := ⟨⟨f, Nat.le_refl _, h⟩, fun a _ _ => freeze_cell hg a⟩
  bx _ _ h := h
  nt := Nat.le_refl _
  tk _ _ := .inr ⟨rfl, fun g' _ => ⟨rfl, fun he => freeze_other w g n g' (fun e => by subst e; rw [hk] at he; cases he)⟩⟩
  ty b c0 T f0 hb := by
    by_cases e : b = g
    · subst e
      obtain ⟨f', h'⟩ := freeze_at (n := n) hb
      exact ⟨c0, f', h'⟩
    · exact ⟨c0, f0, (freeze_other w g n b e).trans hb⟩
theorem RelM.freeze {G : Gh} {m : AMem} {w : World} (h : RelM G m w) {g n f c : Nat} {cs : Array Value} {E : TypeId} {fr : Nat × Nat} (hk : G.kind g = .part f c) (hg : w.heap[g]? = some (.cells cs E fr)) (ht : ∀ t, G.tk t ≠ some (some g)) : RelM G m (w.freeze ⟨g, 0, none⟩ n) where
  box k rows b sz h1 h2 := by
    obtain ⟨g1, cs', e, g2, g3, g4, g5⟩ := h.box k rows b sz h1 h2
    exact ⟨g1, cs', e, (freeze_other w g n b (fun e => by subst e; rw [hk] at g1; cases g1)).trans g2, g3, g4.mono (Le.freeze hk hg), g5⟩
  nobox := h.nobox
  inj := h.inj
  nb := h.nb
  nt := h.nt
  toks := h.toks
  tokb t g' hg' := by
    obtain ⟨f', cur, e, g1, g2⟩ := h.tokb t g' hg'
    exact ⟨f', cur, e, g1, (freeze_other w g n g' (fun e => ht t (e ▸ hg'))).trans g2⟩
  tinj := h.tinj
  tnt := h.tnt
  fresh b hb := h.fresh b (Nat.le_trans (by unfold World.freeze; split <;> simp) hb)
theorem stringB_c (k nb : Nat) (box : Nat → Option (List (List AV))) (tok : Nat → Bool) (nt : Nat) (x : AV) (t : Nat) (s : ByteArray) (hs : 0 < s.size) (hk : box k = some [[x, bufA t s]]) (ht : tok t = true) :
    ACalls Tryz.prog 35 [.ptr k 0 0] ⟨box, nb, tok, nt⟩ fun v m => v = Sb s ∧ m = ⟨box, nb, upd tok t false, nt⟩ := by
  refine ⟨Enters.mk Tryz.func35 rfl (by kernel_rfl), fun G w vals hm hr => ?_⟩
  obtain ⟨hlen, hrv⟩ := hr
  match vals, hlen with
  | [v], _ =>
    have h0 := hrv 0 (by simp) (by simp)
    simp only [List.getElem_cons_zero] at h0
    cases h0 with
    | @ptr _ _ _ b sz hb =>
    obtain ⟨rfl, c0, c1, e, hh, hr0, hr1, ho0, ho1⟩ := box_two hm hk hb
    have ha : (⟨b, 0 * 2 + 0, none⟩ : Addr) = ⟨b, 0, none⟩ := by simp
    rw [ha]
    obtain ⟨_, y, hy⟩ := hm.toks t ht
    cases hr1 with
    | buf h1 h2 h3 h4 =>
    have hbl := bytesD_len s
    cases y with
    | none => exact absurd hy h3
    | some g =>
      obtain ⟨cap, hv, hkg⟩ := h2.2 _ hy
      obtain ⟨cs, f4, hg4⟩ := h4 g hy
      obtain ⟨f, cur, e5, hpk, hgh⟩ := hm.tokb t g hy
      rw [hg4] at hgh
      simp only [Option.some.injEq, Obj.cells.injEq] at hgh
      obtain ⟨rfl, rfl, rfl⟩ := hgh
      have hcs : cs.size = cap := by
        rcases hpk with hpk | hpk
        · rw [hkg] at hpk
          injection hpk with _ h6
          omega
        · rw [hkg] at hpk; cases hpk
      subst hv
      have hds : s.data.toList.length = s.size := sz_list s
      have hcells : ∀ j x, s.data.toList[j]? = some x → w.cell? ((⟨g, 0, none⟩ : Addr).add j) = some (.int .u8 x.toNat) ∧ (bytesD s).length ≤ cap ∧ cap ≤ maxLen := by
        intro j x hx
        have hj : j < s.data.toList.length := (List.getElem?_eq_some_iff.1 hx).1
        have hxe : s.data.toList[j] = x := (List.getElem?_eq_some_iff.1 hx).2
        have hget : ∀ (h1 : j < (bytesD s).length) (h2 : 0 < ((bytesD s)[j]).length), ((bytesD s)[j])[0] = D.raw (.int .u8 x.toNat) := by
          intro h1 h2
          simp only [bytesD, List.getElem_map, List.getElem_cons_zero, hxe]
        generalize hes : bytesD s = es at *
        cases h1 with
        | @sl _ _ A cap2 u hcap hmax hsz hA hc hrr =>
          have hj' : j < es.length := by omega
          have hl1 := hsz _ (List.getElem_mem hj')
          have q1 := (hc _ rfl j 0 hj' (by omega)).2
          have q2 := hrr j 0 hj' (by omega)
          rw [hget hj' (by omega)] at q2
          generalize u j 0 = uj at q1 q2
          cases q2
          rw [Nat.mul_one, Nat.add_zero] at q1
          exact ⟨q1, hcap, hmax⟩
      have hne : s.data.toList ≠ [] := by intro e; rw [e] at hds; simp at hds; omega
      obtain ⟨_, hcp, hcm⟩ := hcells 0 (s.data.toList[0]'(by omega)) (List.getElem?_eq_getElem _)
      rw [hbl, ← hds] at hh hkg
      rw [hbl, ← hds] at hcp
      refine (YtedpnmlgbjcpcaaGreatDoor.bld.string e b g cap c0 cs s.data.toList hne w hh hg4 hcp hcm hcs (fun j x hx => (hcells j x hx).1)).mono ?_
      rintro e' w' ⟨rfl, rfl⟩
      have hm1 := (hm.kill (.tok t)).drew
      have hg5 : w.drew.heap[g]? = some (.cells cs 5 (0, 0)) := hg4
      have hk5 : (G.kill (.tok t)).kind g = .part (s.data.toList.length * 1) (cap * 1) := hkg
      have ht5 : ∀ t', (G.kill (.tok t)).tk t' ≠ some (some g) := by
        intro t' h
        simp only [Gh.kill] at h
        by_cases e : t' = t
        · subst e; rw [upd_same] at h; cases h
        · rw [upd_other _ _ e] at h; exact e (hm.tinj t' t g h hy)
      have hle : Le G w (G.kill (.tok t)) (w.drew.freeze ⟨g, 0, none⟩ s.data.toList.length) := (Le.kill (.tok t)).trans (Le.drew.trans (Le.freeze hk5 hg5))
      refine ⟨_, _, _, G.kill (.tok t), rfl, ⟨rfl, rfl⟩, rfl, hm1.freeze hk5 hg5 ht5, ?_, hle, fun j hj => ⟨hj, rfl⟩⟩
      have : (⟨s.data.toList.toArray⟩ : ByteArray) = s := ofBs_bsOf s
      rw [this]
      exact .d (.raw rfl)
end Go.AM
namespace Go.AM
open Go Go.Proofs Go.RowKit Go.Maps
theorem Bw.le {G : Gh} {w w' : World} {m : AMem} (hm : RelM G m w) (h : Below w.heap.size w w') : Le G w G w' where
  os := h.os
  tape := h.tape
  output := h.output
  size := h.size
  whole b hb hk := ⟨hk, h.block b hb⟩
  part b f c hk := ⟨⟨f, Nat.le_refl _, hk⟩, fun a ha _ => by
    have hb : a.block < w.heap.size := by
      rcases Nat.lt_or_ge a.block w.heap.size with hb | hb
      · exact hb
      · have := hm.fresh a.block hb
        rw [ha, hk] at this
        cases this
    exact World.cell?_of_block (w := w) (h.block _ hb)⟩
  bx _ _ h := h
  ty b c0 T f0 hb := ⟨c0, f0, (h.block b (Array.getElem?_eq_some_iff.1 hb).1).trans hb⟩
  nt := Nat.le_refl _
  tk t _ := .inr ⟨rfl, fun g hg => ⟨rfl, fun _ => h.block g (hm.tlt t g hg)⟩⟩
theorem Bw.lt {w : World} {b : Nat} {o : Obj} (h : w.heap[b]? = some o) : b < w.heap.size := (Array.getElem?_eq_some_iff.1 h).1
theorem Bw.rel {G : Gh} {w w' : World} {m : AMem} (hm : RelM G m w) (h : Below w.heap.size w w') : RelM G m w' := by
  have hle := Bw.le hm h
  constructor
  case box =>
    intro k rows b sz h1 h2
    obtain ⟨g1, cs, e, g2, g3, g4, g5⟩ := hm.box k rows b sz h1 h2
    exact ⟨g1, cs, e, by rw [h.block b (Bw.lt g2)]; exact g2, g3, g4.mono hle, g5⟩
  case nobox => exact hm.nobox
  case inj => exact hm.inj
  case nb => exact hm.nb
  case nt => exact hm.nt
  case toks => exact hm.toks
  case tokb =>
    intro t g hg
    obtain ⟨f, cur, e, g1, g2⟩ := hm.tokb t g hg
    exact ⟨f, cur, e, g1, by rw [h.block g (Bw.lt g2)]; exact g2⟩
  case tinj => exact hm.tinj
  case tnt => exact hm.tnt
  case fresh => intro b hb; exact hm.fresh b (Nat.le_trans h.size hb)
def G00 : Gh := ⟨fun _ => none, fun _ => none, fun _ => .whole, 0⟩
def M00 : AMem := ⟨fun _ => none, 0, fun _ => false, 0⟩
theorem rel00 (w : World) : RelM G00 M00 w where
  box k rows b sz h := by cases h
  nobox _ _ := rfl
  inj k k' b sz sz' h := by cases h
  nb _ _ := rfl
  nt := rfl
  toks t h := by cases h
  tokb t g h := by cases h
  tinj t t' g h := by cases h
  tnt t x h := by cases h
  fresh _ _ := rfl
abbrev Rdw (w : World) (x : D) (v : Value) : Prop := RVd w.cell? G00.ps x v
theorem DCall.plain {P : Program} {f : FuncId} {args : List AV} {v : AV} {tok' : Nat → Bool} {nt' : Nat} (h : DCall P f args (fun _ => false) 0 v tok' nt') {w : World} {vals : List Value} (hr : RVs G00 w args vals) :
    Calls P f vals.toArray w fun e w' => ∃ u G', e = .returned u ∧ RV G' w' v u ∧ w.grownBy w' none := by
  refine ((h M00.box 0).2 G00 w vals (rel00 w) hr).mono ?_
  rintro e w' ⟨u, av, m', G', rfl, ⟨rfl, rfl⟩, _, _, h3, h4, _⟩
  exact ⟨u, G', rfl, h3, h4.os, h4.tape, h4.output, h4.size, fun k hk _ => (h4.whole k hk rfl).2⟩
theorem rdw_grown {w w' : World} {row : Option Nat} (h : w.grownBy w' row) (hm : ∀ b, row = some b → ∃ es c, w.heap[b]? = some (.map es c)) {x : D} {v : Value} (r : Rdw w x v) : Rdw w' x v := by
  refine r.mono fun a u hp hc => ⟨hp, ?_⟩
  have hlt := lt_of_cell hc
  have hne : some a.block ≠ row := by
    intro e
    obtain ⟨es, c, hb⟩ := hm a.block e.symm
    simp [World.cell?, hb] at hc
  rw [World.cell?_of_block (w := w) (h.block a.block hlt hne)]
  exact hc
end Go.AM
namespace Go.AM
open Go Go.Proofs Go.RowKit Go.Maps
theorem lawStr : Keyed Tryz.prog 9 := string_keyed Tryz.underlying9
def MapIs (w : World) (b n : Nat) (ks : List ByteArray) : Prop :=
  ∃ D : DataW Unit, w.ownsMap Tryz.prog 9 (plainElem Tryz.prog 4) b n D ∧ ∀ s : ByteArray, has D (.string (bsOf s)) = true ↔ s ∈ ks
theorem MapIs.isMap {w : World} {b n : Nat} {ks : List ByteArray} (h : MapIs w b n ks) : ∃ es c, w.heap[b]? = some (.map es c) := by
  obtain ⟨D, ⟨es, c, hb, _⟩, _⟩ := h
  exact ⟨es, c, hb⟩
theorem MapIs.lt {w : World} {b n : Nat} {ks : List ByteArray} (h : MapIs w b n ks) : b < w.heap.size := by
  obtain ⟨D, h1, _⟩ := h
  exact h1.lt
theorem MapIs.kept {w w' : World} {b n : Nat} {ks : List ByteArray} {row : Option Nat} (h : MapIs w b n ks) (hg : w.grownBy w' row) (hne : some b ≠ row) : MapIs w' b n ks := by
  obtain ⟨D, h1, h2⟩ := h
  exact ⟨D, h1.kept hg hne, h2⟩
theorem MapIs.alloc {w : World} {b n : Nat} {ks : List ByteArray} (h : MapIs w b n ks) (o : Obj) : MapIs (w.alloc o) b n ks := h.kept (World.grownBy_alloc w o none) (by simp)
theorem MapIs.mono {w : World} {b n n' : Nat} {ks : List ByteArray} (h : MapIs w b n ks) (hn : n ≤ n') : MapIs w b n' ks := by
  obtain ⟨D, h1, h2⟩ := h
  exact ⟨D, h1.mono hn, h2⟩
theorem MapIs.congr {w : World} {b n : Nat} {ks ks' : List ByteArray} (h : MapIs w b n ks) (hm : ∀ s, s ∈ ks ↔ s ∈ ks') : MapIs w b n ks' := by
  obtain ⟨D, h1, h2⟩ := h
  exact ⟨D, h1, fun s => (h2 s).trans (hm s)⟩
theorem MapIs.made (w : World) : MapIs (w.alloc (.map #[] 0)) w.heap.size 0 [] :=
  ⟨.map [], World.ownsMap_made _ _ _ _, fun s => by simp [has]⟩
theorem strKeys_mem {H : Type} {es : List (Lit × DataW H)} (hk : ∀ p ∈ es, ∃ x, p.1 = .string x) (x : Bs) : x ∈ strKeys (.map es) ↔ has (.map es) (.string x) = true := by
  simp only [strKeys, List.mem_map, has_eq, List.any_eq_true]
  constructor
  · rintro ⟨p, hp, rfl⟩
    obtain ⟨y, hy⟩ := hk p hp
    exact ⟨p, hp, by rw [hy]; simp [strOf, Lit.sameKey]⟩
  · rintro ⟨p, hp, he⟩
    obtain ⟨y, hy⟩ := hk p hp
    refine ⟨p, hp, ?_⟩
    rw [hy] at he ⊢
    simpa [strOf, Lit.sameKey] using he
theorem MapIs.tight {w : World} {b n : Nat} {ks : List ByteArray} (h : MapIs w b n ks) {l : List ByteArray} (hl : ∀ s ∈ ks, s ∈ l) : MapIs w b l.length ks := by
  obtain ⟨D, h1, h2⟩ := h
  have h3 := h1
  obtain ⟨es, clock, hb, F, hs, hD⟩ := h1
  refine ⟨D, ⟨es, clock, hb, F, ?_, hD⟩, h2⟩
  obtain ⟨es', hD', hp, hkl⟩ := h3.entries lawStr
  have hlen : es'.length = es.size := by
    have := length_read (P := Tryz.prog) (k := 9) (R0 := plainElem (H := Unit) Tryz.prog 4) es
    rw [hD'] at hD
    injection hD with hD
    rw [hD]
    exact this
  obtain ⟨es2, hD2, hk2⟩ := h3.keysOf
  obtain rfl : es2 = es' := by rw [hD'] at hD2; injection hD2 with e; exact e.symm
  have hk : ∀ p ∈ es2, ∃ x, p.1 = .string x := fun p hp => by
    obtain ⟨v, hv⟩ := hk2 p hp
    obtain ⟨x, _, hx, _⟩ := Maps.keyOf_str Tryz.underlying9 hv
    exact ⟨x, hx⟩
  have hnd : ((strKeys (.map es2)).map ofBs).Nodup := by
    simp only [strKeys, List.map_map]
    refine List.pairwise_map.2 (hp.imp_of_mem fun {a c} ha hc hne e => hne ?_)
    obtain ⟨x, hx⟩ := hk a ha
    obtain ⟨y, hy⟩ := hk c hc
    simp only [Function.comp, hx, hy, strOf] at e
    have := congrArg bsOf e
    simp at this
    rw [hx, hy, this]
  have hsub : ∀ s ∈ (strKeys (.map es2)).map ofBs, s ∈ l := fun s hs => by
    obtain ⟨x, hx, rfl⟩ := List.mem_map.1 hs
    refine hl _ ((h2 _).1 ?_)
    rw [hD', bsOf_ofBs]
    exact (strKeys_mem hk x).1 hx
  have h5 : ((strKeys (.map es2)).map ofBs).length ≤ l.length := hnd.length_le_of_subset fun x hx => hsub x hx
  simp only [List.length_map, strKeys] at h5
  omega
theorem wpList_put {P : Program} (hP : P = Tryz.prog) (w : World) {ops : Array Oper} {rest : List Oper} {o : Oper} {a : Act} {Q : Exit → Act → World → Prop}
    (hg : o.guard = none) (m x v : Operand) (hop : o.op = Op.mapUpdate 102 m x v) (b n : Nat) (ks : List ByteArray) (s : ByteArray)
    (hm : a.eval m = .map (some b)) (hx : a.eval x = .string s) (hv : a.eval v = .bool true) (hown : MapIs w b n ks) (hn : n < maxLen) (hs : s.size ≤ maxLen)
    (hK : ∀ w', MapIs w' b (n + 1) (ks ++ [s]) → w.grownBy w' (some b) → wpList P ops Q rest (a.put o.dst undef) w') :
    wpList P ops Q (o :: rest) a w := by
  subst hP
  obtain ⟨D, h1, h2⟩ := hown
  refine wpList_mapUpdate_own w hg m x v _ hop 9 4 lawStr Tryz.underlying102 _ b n D hm h1 hn _ _ _ hx hv (Go.WideMaps.keyOf_string_mk Tryz.underlying9 hs) _ [] (plainElem_bool Tryz.underlying4 true) ?_
  intro w' h3 h4
  refine hK w' ⟨_, h3, fun t => ?_⟩ h4
  by_cases e : t = s
  · subst e
    rw [has_put_same h1.isMap (show WideAt.IsKeyLit (.string (bsOf t)) from trivial)]
    simp
  · rw [has_put_other (fun hh => e (bsOf_inj (by injection hh)))]
    rw [h2 t]
    simp [e]
theorem rdw_sl {w : World} {sz : Nat} {es : List (List D)} {v : Value} (h : Rdw w (.sl sz es) v) (hsz0 : 0 < sz) : ∃ A cap, v = .slice A es.length cap ∧ es.length ≤ cap ∧ cap ≤ maxLen ∧
    (es = [] ∨ ∃ b off, A = some ⟨b, off, none⟩ ∧ b < w.heap.size ∧ ∀ i (hi : i < es.length), es[i].length = sz ∧ ∀ j (hj : j < es[i].length), ∃ u, w.cell? ⟨b, off + (i * sz + j), none⟩ = some u ∧ Rdw w es[i][j] u) := by
  cases h with
  | @sl _ _ A cap u hcap hmax hsz hA hc hr =>
    refine ⟨A, cap, rfl, hcap, hmax, ?_⟩
    by_cases e : es = []
    · exact .inl e
    · right
      obtain ⟨a, rfl⟩ := hA e
      have hp : 0 < es.length := List.length_pos_iff.2 e
      have hc0 := (hc a rfl 0 0 hp hsz0).2
      have hs : a.spot = none := by
        cases hsp : a.spot with
        | none => rfl
        | some q =>
          exfalso
          simp only [World.cell?, Addr.add, hsp, Option.isSome_some, ↓reduceIte] at hc0
          split at hc0 <;> simp [hsp] at hc0
      obtain ⟨b, off, sp⟩ := a
      simp only at hs
      subst hs
      have hadd : ∀ n, Addr.add ⟨b, off, none⟩ n = ⟨b, off + n, none⟩ := fun n => by
        unfold Addr.add
        split
        · rename_i h0; subst h0; simp
        · simp
      refine ⟨b, off, rfl, ?_, fun i hi => ?_⟩
      · have := lt_of_cell hc0
        rwa [hadd] at this
      · have hl := hsz _ (List.getElem_mem hi)
        refine ⟨hl, fun j hj => ⟨u i j, ?_, hr i j hi hj⟩⟩
        have := (hc _ rfl i j hi (by omega)).2
        rwa [hadd] at this
theorem rdw_raw {w : World} {v u : Value} (h : Rdw w (.raw v) u) : u = v := by cases h; rfl
end Go.AM
namespace Go.AM
open Go Go.Proofs Go.RowKit Go.Maps
theorem cell_grown {w w' : World} {B : Nat} (h : w.grownBy w' (some B)) (hm : ∃ es c, w.heap[B]? = some (.map es c)) {a : Addr} {u : Value} (hc : w.cell? a = some u) : w'.cell? a = some u := by
  have hlt := lt_of_cell hc
  have hne : some a.block ≠ some B := by
    intro e
    obtain ⟨es, c, hb⟩ := hm
    injection e with e
    subst e
    simp [World.cell?, hb] at hc
  rw [World.cell?_of_block (w := w) (h.block a.block hlt hne)]
  exact hc
def KnW (w : World) (kv : Value) (kn : List (List ByteArray)) (B M : Nat) : Prop :=
  (∃ A cap, kv = .slice A kn.length cap) ∧ ∀ j (hj : j < kn.length), ∃ kb ko cap bj, kv = .slice (some ⟨kb, ko, none⟩) kn.length cap ∧ w.cell? ⟨kb, ko + j, none⟩ = some (.map (some bj)) ∧ bj ≠ B ∧ MapIs w bj M kn[j]
theorem KnW.grown {w w' : World} {kv : Value} {kn : List (List ByteArray)} {B M : Nat} (h : KnW w kv kn B M) (hg : w.grownBy w' (some B)) (hm : ∃ es c, w.heap[B]? = some (.map es c)) : KnW w' kv kn B M := by
  refine ⟨h.1, fun j hj => ?_⟩
  obtain ⟨kb, ko, cap, bj, h1, h2, h3, h4⟩ := h.2 j hj
  exact ⟨kb, ko, cap, bj, h1, cell_grown hg hm h2, h3, h4.kept hg (by simpa using h3)⟩
theorem KnW.alloc {w : World} {kv : Value} {kn : List (List ByteArray)} {B M : Nat} (h : KnW w kv kn B M) (o : Obj) : KnW (w.alloc o) kv kn B M := by
  refine ⟨h.1, fun j hj => ?_⟩
  obtain ⟨kb, ko, cap, bj, h1, h2, h3, h4⟩ := h.2 j hj
  exact ⟨kb, ko, cap, bj, h1, by rw [World.cell?_alloc_past _ _ _ (lt_of_cell h2)]; exact h2, h3, h4.alloc o⟩
theorem Gb.trans {a b c : World} {row : Option Nat} (h : a.grownBy b row) (k : b.grownBy c row) : a.grownBy c row :=
  ⟨k.os.trans h.os, k.tape.trans h.tape, k.output.trans h.output, Nat.le_trans h.size k.size, fun i hi hne => (k.block i (Nat.lt_of_lt_of_le hi h.size) hne).trans (h.block i hi hne)⟩
theorem Gb.new {a b c : World} {row : Option Nat} {r : Nat} (h : a.grownBy b row) (k : b.grownBy c (some r)) (hr : a.heap.size ≤ r) : a.grownBy c row :=
  ⟨k.os.trans h.os, k.tape.trans h.tape, k.output.trans h.output, Nat.le_trans h.size k.size, fun i hi hne => (k.block i (Nat.lt_of_lt_of_le hi h.size) (fun e => by injection e with e; omega)).trans (h.block i hi hne)⟩
theorem Gb.none {a b : World} {row : Option Nat} (h : a.grownBy b none) : a.grownBy b row := ⟨h.os, h.tape, h.output, h.size, fun i hi _ => h.block i hi (by simp)⟩
theorem rdw_one {w : World} {x : D} {v : Value} (h : Rdw w x v) : v.oneCell' = true := by cases h with | raw h => exact h | sl => rfl
theorem place_k (p : List Pr) (s : ByteArray) (hp : p.length ≤ 200000000000000) (w : World) (pv : Value) (h : Rdw w (prs p) pv) :
    Calls Tryz.prog 56 #[.agg #[pv], .string s] w fun e w' => e = .returned (.int .i64 (placeR p s)) ∧ w.grownBy w' none := by
  have hr : RVs G00 w [prsAv p, Sb s] [.agg #[pv], .string s] := RVs.cons (.agg (vs := [pv]) rfl (fun i h1 h2 => by
      have : i = 0 := by simp at h1; omega
      subst this
      exact .d h) (by simpa using rdw_one h)) (RVs.cons (.d (.raw rfl)) RVs.nil)
  refine ((placeP_c p s hp _ _).plain hr).mono ?_
  rintro e w' ⟨u, G', rfl, hu, hg⟩
  cases hu with | d hu => cases hu; exact ⟨rfl, hg⟩
end Go.AM
namespace Go.Proofs.YtedpnmlgbjcpcaaGreatDoor.collect
open Go Go.Proofs Go.RowKit Go.AM Go.Maps
def Post (p : List Pr) (kn : List (List ByteArray)) (c : Cm) (m : Nat) (ks : List ByteArray) (B : Nat) (w : World) (e : Ending) (w' : World) : Prop :=
  e = .returned (.tuple #[]) ∧ MapIs w' B (m + (uC p kn c).length) (ks ++ uC p kn c) ∧ w.grownBy w' (some B)
set_option maxHeartbeats 4000000 in
set_option maxRecDepth 100000 in
theorem rule (p : List Pr) (kn : List (List ByteArray)) (s : ByteArray) (n : Int) (hs : s.size ≤ 100) (pv kv : Value) (A : Option Addr) (cap B m : Nat) (ks : List ByteArray) (w : World) (hm : m ≤ 100000000000000) (hB : MapIs w B m ks) :
    Calls Tryz.prog 57 #[.agg #[pv], .agg #[.int .i64 1, .string s, .int .i64 n, .slice A 0 cap], kv, .map (some B)] w (Post p kn (.mk 1 s n []) m ks B w) := by
  have hu : uC p kn (.mk 1 s n []) = [s] := by simp [uC, uL]
  unfold Post
  rw [hu]
  go_enter Tryz.func57, Tryz.ntmps57
  go_wp2_with (first | (at_mapUpdate; refine wpList_put rfl _ rfl _ _ _ rfl B m ks s rfl rfl rfl ((hB.alloc _).alloc _) (by unfold maxLen; omega) (by unfold maxLen; omega) ?_; intro w1 hm1 hg1; have c3 : w1.cell? ⟨w.heap.size + 1, 3, none⟩ = some (.slice A 0 cap) := cell_grown hg1 ((hB.alloc _).alloc _).isMap (by simp)) | go_in)
  refine wp_loop_rounds 1 ?_
  rw [rounds_succ]
  go_wp2
  go_end0
  refine ⟨rfl, hm1, ?_⟩
  exact Gb.trans (Gb.trans (World.grownBy_alloc w _ _) (World.grownBy_alloc _ _ _)) hg1
abbrev W0 (w : World) (pv : Value) (K : Int) (s : ByteArray) (n : Int) (sv : Value) : World := (w.alloc (.cells #[pv] 24)).alloc (.cells #[.int .i64 K, .string s, .int .i64 n, sv] 44)
theorem w0_cell {w : World} {pv : Value} {K : Int} {s : ByteArray} {n : Int} {sv : Value} {a : Addr} {v : Value} (h : w.cell? a = some v) : (W0 w pv K s n sv).cell? a = some v := by
  exact (Gb.trans (World.grownBy_alloc w _ none) (World.grownBy_alloc _ _ _)).cell h (by simp)
theorem uL_len {p : List Pr} {M : Nat} (hM : 1 ≤ M) {kn : List (List ByteArray)} (hk : ∀ l ∈ kn, l.length ≤ M) : ∀ l : List Cm, (uL p kn l).length ≤ Cm.sizeL l * M
  | [] => by simp [uL]
  | x :: r => by
    have h1 := uC_len (p := p) hM hk _ x (Nat.lt_succ_self _)
    have h2 := uL_len (p := p) hM hk r
    rw [uL, List.length_append, Cm.sizeL, Nat.add_mul]
    omega
theorem w0_grown (w : World) (pv : Value) (K : Int) (s : ByteArray) (n : Int) (sv : Value) (row : Option Nat) : w.grownBy (W0 w pv K s n sv) row := Gb.trans (World.grownBy_alloc w _ _) (World.grownBy_alloc _ _ _)
set_option maxHeartbeats 4000000 in
set_option maxRecDepth 100000 in
theorem call (p : List Pr) (hp : p.length ≤ 200000000000000) (kn : List (List ByteArray)) (s : ByteArray) (n : Int) (k : Nat) (hk : placeR p s = k) (hkl : k < kn.length) (pv kv : Value) (A : Option Addr) (cap B m M : Nat) (ks : List ByteArray) (w : World)
    (hm : m + (kn[k]).length ≤ 100000000000000) (hpv : Rdw w (prs p) pv) (hB : MapIs w B m ks) (hK : KnW w kv kn B M) :
    Calls Tryz.prog 57 #[.agg #[pv], .agg #[.int .i64 10, .string s, .int .i64 n, .slice A 0 cap], kv, .map (some B)] w (Post p kn (.mk 10 s n []) m ks B w) := by
  have hu : uC p kn (.mk 10 s n []) = kn[k] := by simp [uC, uL, hk, hkl]
  unfold Post
  rw [hu]
  obtain ⟨kb, ko, kc, bj, rfl, hc, hne, hj⟩ := hK.2 k hkl
  have hpl := place_k p s hp (W0 w pv 10 s n (.slice A 0 cap)) pv (rdw_grown (w0_grown w pv 10 s n _ none) (by simp) hpv)
  rw [hk] at hpl
  have hlt2 : (k : Int) < kn.length := by omega
  have hB0 : MapIs (W0 w pv 10 s n (.slice A 0 cap)) B m ks := (hB.alloc _).alloc _
  have hj0 : MapIs (W0 w pv 10 s n (.slice A 0 cap)) bj M kn[k] := (hj.alloc _).alloc _
  have hc0 : (W0 w pv 10 s n (.slice A 0 cap)).cell? ⟨kb, ko + k, none⟩ = some (.map (some bj)) := by
    rw [World.cell?_alloc_past _ _ _ (by simp; have := lt_of_cell hc; simp at this; omega), World.cell?_alloc_past _ _ _ (lt_of_cell hc)]
    exact hc
  have hc3 : (W0 w pv 10 s n (.slice A 0 cap)).cell? ⟨w.heap.size + 1, 3, none⟩ = some (.slice A 0 cap) := by simp
  have hc4 : (W0 w pv 10 s n (.slice A 0 cap)).cell? ⟨w.heap.size, 0, none⟩ = some pv := by simp
  have hc5 : (W0 w pv 10 s n (.slice A 0 cap)).cell? ⟨w.heap.size + 1, 0, none⟩ = some (.int .i64 10) := by simp
  have hc6 : (W0 w pv 10 s n (.slice A 0 cap)).cell? ⟨w.heap.size + 1, 1, none⟩ = some (.string s) := by simp
  have hsz : (W0 w pv 10 s n (.slice A 0 cap)).heap.size = w.heap.size + 2 := by simp
  have hgw := w0_grown w pv 10 s n (.slice A 0 cap) (some B)
  generalize hW : W0 w pv 10 s n (.slice A 0 cap) = W at *
  go_enter Tryz.func57, Tryz.ntmps57
  go_wp2_with (first | (go_at_call 56; refine hpl.mono ?_) | go_in)
  rintro e w1 ⟨rfl, hg1⟩
  have hB1 := hB0.kept hg1 (by simp)
  have hj1 := hj0.kept hg1 (by simp)
  have hc1 : w1.cell? ⟨kb, ko + k, none⟩ = some (.map (some bj)) := hg1.cell hc0 (by simp)
  have hd3 : w1.cell? ⟨w.heap.size + 1, 3, none⟩ = some (.slice A 0 cap) := hg1.cell hc3 (by simp)
  have hgw1 : w.grownBy w1 (some B) := Gb.trans hgw (Gb.none hg1)
  have hs1 : w.heap.size + 2 ≤ w1.heap.size := by have := hg1.size; omega
  have hBl := hB.lt
  have hjl := hj.lt
  obtain ⟨D0, hown, hmem⟩ := hj1
  clear hW hpl hB0 hj0 hc0 hc3 hc4 hc5 hc6 hsz hgw hg1 hB hj hc hK hpv
  go_wp2_with (first | (at_range; refine wpList_range_own _ rfl _ 102 rfl 9 4 lawStr Tryz.underlying102 _ bj M D0 rfl hown ?_; intro w2 hrg0 hg2 hs2) | go_in)
  go_frame
  have hne2 : w1.heap.size ≠ B := by omega
  have hd2 : w2.cell? ⟨w.heap.size + 1, 3, none⟩ = some (.slice A 0 cap) := hg2.cell hd3 (by simp)
  go_loopw [8] (fun _ wr => ∃ (left : Lit → Bool) (cnt : Nat) (ss : List Bs), wr.ranges Tryz.prog 9 (plainElem Tryz.prog 4) bj w1.heap.size M D0 left cnt ∧ Collected D0 left ss ∧ ss.length ≤ (kn[k]).length ∧
      MapIs wr B (m + ss.length) (ks ++ ss.map ofBs) ∧ w.grownBy wr (some B) ∧ wr.cell? ⟨w.heap.size + 1, 3, none⟩ = some (.slice A 0 cap)) (fun _ wr => wr.rangeLeft bj w1.heap.size)
  case atStart => exact ⟨_, _, [], hrg0, Collected.start D0, Nat.zero_le _, by simpa using hB1.kept hg2 (by simp), Gb.trans hgw1 (Gb.none hg2), hd2⟩
  case round =>
    obtain ⟨left, cnt, ss, hrg, hC, hsl, hB2, hgw2, hd⟩ := hrel
    go_wp2_with (first
      | (at_next; refine wpList_next_ranges _ rfl _ rfl 9 lawStr (plainElem Tryz.prog 4) encStr (fun v : Value => v) (fun key kl h => by obtain ⟨x, hx, _⟩ := Maps.keyOf_str Tryz.underlying9 h; exact ⟨x, hx⟩) (fun v y h => ⟨v, rfl⟩) bj w1.heap.size M _ _ _ rfl hrg ?_ ?_)
      | go_in)
    · intro hc0 hl0
      have hfin : MapIs wr B (m + (kn[k]).length) (ks ++ kn[k]) := by
        refine (hB2.mono (by omega)).congr fun t => ?_
        rw [List.mem_append, List.mem_append]
        refine or_congr_right ⟨fun ht => ?_, fun ht => ?_⟩
        · obtain ⟨x, hx, rfl⟩ := List.mem_map.1 ht
          exact (hmem _).1 (by rw [bsOf_ofBs]; exact ((hC.2 x).1 hx).1)
        · exact List.mem_map.2 ⟨bsOf t, (hC.2 _).2 ⟨(hmem t).2 ht, hl0 _⟩, ofBs_bsOf t⟩
      go_wp2
      refine wp_loop_rounds 1 ?_
      rw [rounds_succ]
      go_wp2
      go_end0
      exact ⟨rfl, hfin, hgw2⟩
    · intro x c kl yd yp w3 cnt3 hkey hlk hv hat hrg3 hlt3 hg3 hs3 hen
      obtain ⟨x', ex, rfl, hxl⟩ := Maps.keyOf_str Tryz.underlying9 hkey
      obtain rfl : x = x' := encStr_inj ex
      have hB3 := hB2.kept hg3 (by simpa using fun e => hne2 e.symm)
      have hC3 := hC.step hlk hat
      have hbd : (ss ++ [x]).length ≤ (kn[k]).length := by
        have h1 : ((ss ++ [x]).map ofBs).Nodup := by
          refine List.pairwise_map.2 (hC3.1.imp fun {a b} hab e => hab ?_)
          have := congrArg bsOf e
          simpa using this
        have h2 := h1.length_le_of_subset (l₂ := kn[k]) fun y hy => by
          obtain ⟨z, hz, rfl⟩ := List.mem_map.1 hy
          exact (hmem _).1 (by rw [bsOf_ofBs]; exact ((hC3.2 z).1 hz).1)
        simpa using h2
      have hd3' : w3.cell? ⟨w.heap.size + 1, 3, none⟩ = some (.slice A 0 cap) := hg3.cell hd (by simp; omega)
      have hg3' : w.grownBy w3 (some B) := Gb.new hgw2 hg3 (by omega)
      clear hs3 hd hgw2 hB2
      go_wp2_with (first
        | (at_mapUpdate; refine wpList_put rfl _ rfl _ _ _ rfl B _ _ (ofBs x) rfl rfl rfl hB3 (by unfold maxLen; simp at hbd; omega) (by show x.toArray.size ≤ maxLen; simpa using hxl) ?_; intro w4 hB4 hg4; go_frame)
        | go_in)
      have hrg4 := hrg3.kept hg4 (by simpa using hne) (by simpa using hne2)
      go_roundw
      case rel =>
        exact ⟨_, cnt3, ss ++ [x], hrg4, hC3, hbd, by simpa [List.append_assoc, Nat.add_assoc] using hB4, Gb.trans hg3' hg4, hg4.cell hd3' (by simp; omega)⟩
      case measure => rw [hrg4.left_eq, hrg.left_eq]; exact hlt3
theorem kid_cells {w : World} {l : List Cm} {sv : Value} (h : Rdw w (cms l) sv) : ∃ A cap, sv = .slice A l.length cap ∧ ∀ i (hi : i < l.length), ∃ b off u, A = some ⟨b, off, none⟩ ∧ w.cell? ⟨b, off + i * 4, none⟩ = some (.int .i64 l[i].kind) ∧ w.cell? ⟨b, off + i * 4 + 1, none⟩ = some (.string l[i].name) ∧
    w.cell? ⟨b, off + i * 4 + 2, none⟩ = some (.int .i64 l[i].num) ∧ w.cell? ⟨b, off + i * 4 + 3, none⟩ = some u ∧ Rdw w (cms l[i].kids) u := by
  obtain ⟨A, cap, rfl, h1, h2, h3⟩ := rdw_sl h (by decide)
  refine ⟨A, cap, by rw [List.length_map], fun i hi => ?_⟩
  rcases h3 with h3 | ⟨b, off, rfl, hb, h3⟩
  · rw [List.map_eq_nil_iff] at h3; subst h3; simp at hi
  · obtain ⟨g1, g2⟩ := h3 i (by rw [List.length_map]; exact hi)
    have e : (l.map Cm.cells)[i]'(by rw [List.length_map]; exact hi) = [.raw (.int .i64 l[i].kind), .raw (.string l[i].name), .raw (.int .i64 l[i].num), cms l[i].kids] := by rw [List.getElem_map, Cm.cells_eq]
    have k0 := g2 0 (by rw [g1]; decide)
    have k1 := g2 1 (by rw [g1]; decide)
    have k2 := g2 2 (by rw [g1]; decide)
    have k3 := g2 3 (by rw [g1]; decide)
    simp only [e, List.getElem_cons_zero, List.getElem_cons_succ] at k0 k1 k2 k3
    obtain ⟨u0, c0, r0⟩ := k0
    obtain ⟨u1, c1, r1⟩ := k1
    obtain ⟨u2, c2, r2⟩ := k2
    obtain ⟨u3, c3, r3⟩ := k3
    cases rdw_raw r0
    cases rdw_raw r1
    cases rdw_raw r2
    exact ⟨b, off, u3, rfl, c0, c1, c2, c3, r3⟩
set_option maxHeartbeats 4000000 in
set_option maxRecDepth 100000 in
theorem any (p : List Pr) (hp : p.length ≤ 200000000000000) (kn : List (List ByteArray)) (M : Nat) (hM : 1 ≤ M) (hM2 : M ≤ 1000000) (hkM : ∀ l ∈ kn, l.length ≤ M) : ∀ (f : Nat) (c : Cm), c.size < f → c.size ≤ 1000000 → c.Fm → CallsOk p kn.length c →
    ∀ (pv sv kv : Value) (B m N : Nat) (ks : List ByteArray) (w : World), m + c.size * M ≤ 100000000000000 → Rdw w (prs p) pv → Rdw w (cms c.kids) sv → MapIs w B m ks → KnW w kv kn B N →
    Calls Tryz.prog 57 #[.agg #[pv], .agg #[.int .i64 c.kind, .string c.name, .int .i64 c.num, sv], kv, .map (some B)] w (Post p kn c m ks B w)
  | 0, c, h, _, _, _ => absurd h (Nat.not_lt_zero _)
  | f + 1, .mk K s n l, hf, hz, hfm, hco => by
    intro pv sv kv B m N ks w hm hpv hsv hB hK
    have hlen := uC_len (p := p) hM hkM _ (.mk K s n l) (Nat.lt_succ_self _)
    have hnm := hfm.name
    have hok := hfm.okB
    simp only [Cm.kind, Cm.name, Cm.num, Cm.kids] at hsv hnm hm hlen ⊢
    obtain ⟨A, cap, rfl, hcell⟩ := kid_cells hsv
    by_cases e1 : K = 1
    · subst e1
      have : l = [] := by have h1 := hok; simp [okB, Cm.kind, Cm.kids] at h1; exact h1.1
      subst this
      exact rule p kn s n hnm pv kv A cap B m ks w (by omega) hB
    by_cases e10 : K = 10
    · subst e10
      have : l = [] := by have h1 := hok; simp [okB, Cm.kind, Cm.kids] at h1; exact h1.1
      subst this
      obtain ⟨h1, h2⟩ := hco.call rfl
      simp only [Cm.name] at h1 h2
      obtain ⟨k, hk⟩ : ∃ k : Nat, placeR p s = k := ⟨(placeR p s).toNat, by omega⟩
      have hkl : k < kn.length := by omega
      have := hkM _ (List.getElem_mem hkl)
      have h1' : (1 : Nat) ≤ (Cm.mk 10 s n []).size := Cm.size_pos _
      have h2' : M ≤ (Cm.mk 10 s n []).size * M := Nat.le_mul_of_pos_left M h1'
      exact call p hp kn s n k hk hkl pv kv A cap B m N ks w (by omega) hpv hB hK
    have hb1 : (K == 1) = false := by simp [e1]
    have hb10 : (K == 10) = false := by simp [e10]
    have hu : uC p kn (.mk K s n l) = uL p kn l := by simp [uC, e1, e10]
    have ih := fun x (hx : x ∈ l) => any p hp kn M hM hM2 hkM f x (by have := Cm.kid_size (c := .mk K s n l) hx; omega) (by have := Cm.kid_size (c := .mk K s n l) hx; omega) (hfm.kid x hx) (hco.kid x hx)
    have hll : l.length ≤ 1000000 := by have := (Cm.mk K s n l).kids_len; simp only [Cm.kids] at this; omega
    unfold Post
    rw [hu]
    clear hfm hco hok
    go_enter Tryz.func57, Tryz.ntmps57
    go_wp2
    go_loopw [37] (fun v wr => ∃ i : Nat, i ≤ l.length ∧ v = .int .i64 i ∧ MapIs wr B (m + (uL p kn (l.take i)).length) (ks ++ uL p kn (l.take i)) ∧ (W0 w pv K s n (.slice A l.length cap)).grownBy wr (some B)) (fun v _ => l.length - (intOf v).toNat)
    case atStart => exact ⟨0, Nat.zero_le _, rfl, by simpa [uL] using (hB.alloc _).alloc _, Gb.none (World.grownBy.refl _ _)⟩
    case round =>
      obtain ⟨i, hi, rfl, hB1, hg1⟩ := hrel
      have hBm := ((hB.alloc (.cells #[pv] 24)).alloc (.cells #[.int .i64 K, .string s, .int .i64 n, .slice A l.length cap] 44)).isMap
      by_cases hlt : i < l.length
      · obtain ⟨b, off, u, rfl, c0, c1, c2, c3, hu3⟩ := hcell i hlt
        have hx := List.getElem_mem hlt
        obtain ⟨A2, cap2, rfl, _⟩ := kid_cells hu3
        have hux := uL_take (p := p) (kn := kn) hlt
        have hsz1 := Cm.sizeL_take hlt
        generalize l[i] = x at *
        have tr : ∀ {a : Addr} {v : Value}, w.cell? a = some v → wr.cell? a = some v := fun h => cell_grown hg1 hBm (w0_cell h)
        have d0 := tr c0
        have d1 := tr c1
        have d2 := tr c2
        have d3 := tr c3
        have d4 : wr.cell? ⟨w.heap.size, 0, none⟩ = some pv := cell_grown hg1 hBm (by simp)
        have hgw : w.grownBy wr (some B) := Gb.trans (w0_grown _ _ _ _ _ _ _) hg1
        have hlt' : (i : Int) < l.length := by omega
        have hal := World.grownBy_alloc wr (.cells #[.int .i64 x.kind, .string x.name, .int .i64 x.num, .slice A2 x.kids.length cap2] 44) (some B)
        have hBw := hB.isMap
        have hB1w := hB1.isMap
        have hbd : m + (uL p kn (l.take i)).length + x.size * M ≤ 100000000000000 := by
          have h1 := uL_len (p := p) hM hkM (l.take i)
          have h2 : Cm.sizeL (l.take i) * M + x.size * M ≤ (Cm.mk K s n l).size * M := by
            rw [← Nat.add_mul, ← hsz1]
            refine Nat.mul_le_mul_right _ ?_
            have := Cm.sizeL_take_le l (i + 1)
            have h4 := (Cm.mk K s n l).size_eq
            simp only [Cm.kids] at h4
            omega
          omega
        have hcall := ih x hx pv (.slice A2 x.kids.length cap2) kv B (m + (uL p kn (l.take i)).length) N (ks ++ uL p kn (l.take i)) (wr.alloc (.cells #[.int .i64 x.kind, .string x.name, .int .i64 x.num, .slice A2 x.kids.length cap2] 44)) hbd
          (rdw_grown hal (fun b hb => by injection hb with hb; subst hb; exact hB1w) (rdw_grown hgw (fun b hb => by injection hb with hb; subst hb; exact hBw) hpv))
          (rdw_grown hal (fun b hb => by injection hb with hb; subst hb; exact hB1w) (rdw_grown hgw (fun b hb => by injection hb with hb; subst hb; exact hBw) hu3)) (hB1.alloc _) ((hK.grown hgw hBw).alloc _)
        have d5 : (wr.alloc (.cells #[.int .i64 x.kind, .string x.name, .int .i64 x.num, .slice A2 x.kids.length cap2] 44)).cell? ⟨w.heap.size, 0, none⟩ = some pv := (World.grownBy_alloc wr _ none).cell d4 (by simp)
        clear ih hcell hsv tr hK hpv hu3 hBm hB hBw hB1w
        go_wp2_with (first | (go_at_call 57; refine hcall.mono ?_) | go_in)
        rintro e w2 ⟨rfl, hB2, hg2⟩
        have hg3 := Gb.trans hg1 (Gb.trans hal hg2)
        clear hal hg2 d0 d1 d2 d3 d4 d5 c0 c1 c2 c3 hgw hg1 hB1 hcall
        go_wp2
        refine ⟨⟨i + 1, by omega, by simp, ?_, hg3⟩, by simp [intOf]; omega⟩
        rw [hux, List.length_append, ← Nat.add_assoc, ← List.append_assoc]
        exact hB2
      · have : i = l.length := by omega
        subst this
        rw [List.take_length] at hB1
        have hge : ¬ (l.length : Int) < l.length := by omega
        clear ih hcell hsv hK hpv hBm
        go_wp2
        go_end0
        exact ⟨rfl, hB1, Gb.trans (w0_grown _ _ _ _ _ _ _) hg1⟩
end Go.Proofs.YtedpnmlgbjcpcaaGreatDoor.collect
namespace Go.Proofs
open Go.Shelf
def Tryz.lays190_ren : Go.Shelf.Ren := ⟨fun | 190 => 29 | 125 => 66 | 258 => 65 | 128 => 107 | 129 => 108 | 302 => 98 | 303 => 99 | 304 => 100 | 305 => 101 | 306 => 102 | 307 => 103 | 308 => 104 | 309 => 105 | 310 => 106 | 333 => 138 | 329 => 139 | 330 => 140 | 334 => 141 | 335 => 142 | 336 => 143 | 344 => 156 | n => n, fun | 31 => 34 | 9 => 9 | 3 => 3 | 46 => 136 | 0 => 0 | 51 => 173 | 53 => 175 | 4 => 4 | 183 => 166 | 182 => 165 | 131 => 170 | 5 => 5 | 218 => 198 | 222 => 202 | 228 => 222 | 229 => 143 | n => n, fun | n => n⟩
theorem Tryz.lays190 : Go.Proofs.Lays.n190 Tryz.prog Tryz.lays190_ren := {
  mixed := by kernel_rfl
  f125 := Tryz.func66.trans (congrArg some (by kernel_rfl))
  f128 := Tryz.func107.trans (congrArg some (by kernel_rfl))
  f129 := Tryz.func108.trans (congrArg some (by kernel_rfl))
  f190 := Tryz.func29.trans (congrArg some (by kernel_rfl))
  f258 := Tryz.func65.trans (congrArg some (by kernel_rfl))
  f302 := Tryz.func98.trans (congrArg some (by kernel_rfl))
  f303 := Tryz.func99.trans (congrArg some (by kernel_rfl))
  f304 := Tryz.func100.trans (congrArg some (by kernel_rfl))
  f305 := Tryz.func101.trans (congrArg some (by kernel_rfl))
  f306 := Tryz.func102.trans (congrArg some (by kernel_rfl))
  f307 := Tryz.func103.trans (congrArg some (by kernel_rfl))
  f308 := Tryz.func104.trans (congrArg some (by kernel_rfl))
  f309 := Tryz.func105.trans (congrArg some (by kernel_rfl))
  f310 := Tryz.func106.trans (congrArg some (by kernel_rfl))
  f329 := Tryz.func139.trans (congrArg some (by kernel_rfl))
  f330 := Tryz.func140.trans (congrArg some (by kernel_rfl))
  f333 := Tryz.func138.trans (congrArg some (by kernel_rfl))
  f334 := Tryz.func141.trans (congrArg some (by kernel_rfl))
  f335 := Tryz.func142.trans (congrArg some (by kernel_rfl))
  f336 := Tryz.func143.trans (congrArg some (by kernel_rfl))
  f344 := Tryz.func156.trans (congrArg some (by kernel_rfl))
  t0 := Tryz.underlying0
  a0 := Tryz.isAgg0
  z0 := Tryz.sizeOf0
  v0 := Tryz.zeroValue0
  t3 := Tryz.underlying3
  a3 := Tryz.isAgg3
  z3 := Tryz.sizeOf3
  v3 := Tryz.zeroValue3
  t4 := Tryz.underlying4
  a4 := Tryz.isAgg4
  z4 := Tryz.sizeOf4
  v4 := Tryz.zeroValue4
  t5 := Tryz.underlying5
  a5 := Tryz.isAgg5
  z5 := Tryz.sizeOf5
  v5 := Tryz.zeroValue5
  t9 := Tryz.underlying9
  a9 := Tryz.isAgg9
  z9 := Tryz.sizeOf9
  v9 := Tryz.zeroValue9
  t31 := Tryz.underlying34
  a31 := Tryz.isAgg34
  z31 := Tryz.sizeOf34
  v31 := Tryz.zeroValue34
  t46 := Tryz.underlying136
  a46 := Tryz.isAgg136
  z46 := Tryz.sizeOf136
  v46 := Tryz.zeroValue136
  t51 := Tryz.underlying173
  a51 := Tryz.isAgg173
  z51 := Tryz.sizeOf173
  v51 := Tryz.zeroValue173
  t53 := Tryz.underlying175
  a53 := Tryz.isAgg175
  z53 := Tryz.sizeOf175
  v53 := Tryz.zeroValue175
  t131 := Tryz.underlying170
  a131 := Tryz.isAgg170
  z131 := Tryz.sizeOf170
  v131 := Tryz.zeroValue170
  t182 := Tryz.underlying165
  a182 := Tryz.isAgg165
  z182 := Tryz.sizeOf165
  v182 := Tryz.zeroValue165
  t183 := Tryz.underlying166
  a183 := Tryz.isAgg166
  z183 := Tryz.sizeOf166
  v183 := Tryz.zeroValue166
  t218 := Tryz.underlying198
  a218 := Tryz.isAgg198
  z218 := Tryz.sizeOf198
  v218 := Tryz.zeroValue198
  t222 := Tryz.underlying202
  a222 := Tryz.isAgg202
  z222 := Tryz.sizeOf202
  v222 := Tryz.zeroValue202
  t228 := Tryz.underlying222
  a228 := Tryz.isAgg222
  z228 := Tryz.sizeOf222
  v228 := Tryz.zeroValue222
  t229 := Tryz.underlying143
  a229 := Tryz.isAgg143
  z229 := Tryz.sizeOf143
  v229 := Tryz.zeroValue143 }
open Go.Sort Go.RowKit in
theorem Tryz.slices_Sort_string (blk off cap : Nat) (ss : List (List UInt8)) (w : World) (hH : Holds encStr w blk off ss.toArray) (hblk : blk < w.heap.size) (hsz : ss.length < 4611686018427387904) :
    Calls Tryz.prog 29 #[.slice (some ⟨blk, off, none⟩) ss.length cap] w fun e w' =>
      e = .returned (.tuple #[]) ∧ ∃ n os, w' = grow (putRow encStr (Sort.ahead w n) blk off (ss.mergeSort fun x y => decide (x ≤ y)).toArray) os := Any.slices_Sort_string Tryz.lays190 blk off cap ss w hH hblk hsz
open Go.RowKit Go.Lib in
open Go.RowKit Go.Lib in
open Go.RowKit Go.Sort in
theorem Tryz.slices_Sort_string_none (p : Option Addr) (cap : Nat) (w : World) :
    Calls Tryz.prog 29 #[.slice p 0 cap] w fun e w' => e = .returned (.tuple #[]) ∧ w' = w := Any.slices_Sort_string_none Tryz.lays190 p cap w
end Go.Proofs
namespace Go.AM
open Go Go.Proofs Go.RowKit Go.Maps
theorem fault_k (p : List Pr) (rs : List ByteArray) (hp : PrsOk p) (hr : rs.length ≤ 200000000000000) (w : World) (pv rv : Value) (h : Rdw w (prs p) pv) (h2 : Rdw w (rules46 rs) rv) :
    Calls Tryz.prog 39 #[.agg #[pv], rv, .bool true] w fun e w' => e = .returned (.tuple #[.int .i64 (faultR p rs true).1, .int .i64 (faultR p rs true).2]) ∧ w.grownBy w' none := by
  have hr0 : RVs G00 w [prsAv p, .d (rules46 rs), B true] [.agg #[pv], rv, .bool true] := RVs.cons (.agg (vs := [pv]) rfl (fun i h1 h2 => by
      have : i = 0 := by simp at h1; omega
      subst this
      exact .d h) (by simpa using rdw_one h)) (RVs.cons (.d h2) (RVs.cons (.d (.raw rfl)) RVs.nil))
  refine ((fault_c p rs true hp hr _ _).plain hr0).mono ?_
  rintro e w' ⟨u, G', rfl, hu, hg⟩
  cases hu with
  | @tup _ vs hl hv =>
    match vs, hl with
    | [a, b], _ =>
      have h0 := hv 0 (by simp) (by simp)
      have h1 := hv 1 (by simp) (by simp)
      simp only [List.getElem_cons_zero, List.getElem_cons_succ] at h0 h1
      cases h0 with | d h0 => cases h1 with | d h1 => cases h0; cases h1; exact ⟨rfl, hg⟩
theorem proc_cells {w : World} {l : List Pr} {pv : Value} (h : Rdw w (prs l) pv) : ∃ A cap, pv = .slice A l.length cap ∧ l.length ≤ cap ∧ ∀ i (hi : i < l.length), ∃ b off A2 cap2, A = some ⟨b, off, none⟩ ∧ w.cell? ⟨b, off + i * 5, none⟩ = some (.string l[i].name) ∧ w.cell? ⟨b, off + i * 5 + 1, none⟩ = some (.int .i64 l[i].body.kind) ∧
    w.cell? ⟨b, off + i * 5 + 2, none⟩ = some (.string l[i].body.name) ∧ w.cell? ⟨b, off + i * 5 + 3, none⟩ = some (.int .i64 l[i].body.num) ∧ w.cell? ⟨b, off + i * 5 + 4, none⟩ = some (.slice A2 l[i].body.kids.length cap2) ∧ Rdw w (cms l[i].body.kids) (.slice A2 l[i].body.kids.length cap2) := by
  obtain ⟨A, cap, rfl, h1, h2, h3⟩ := rdw_sl h (by decide)
  refine ⟨A, cap, by rw [List.length_map], by simpa using h1, fun i hi => ?_⟩
  rcases h3 with h3 | ⟨b, off, rfl, hb, h3⟩
  · rw [List.map_eq_nil_iff] at h3; subst h3; simp at hi
  · obtain ⟨g1, g2⟩ := h3 i (by rw [List.length_map]; exact hi)
    have e : (l.map Pr.cells)[i]'(by rw [List.length_map]; exact hi) = Pr.cells l[i] := by rw [List.getElem_map]
    have k0 := g2 0 (by rw [g1]; decide)
    have k1 := g2 1 (by rw [g1]; decide)
    have k2 := g2 2 (by rw [g1]; decide)
    have k3 := g2 3 (by rw [g1]; decide)
    have k4 := g2 4 (by rw [g1]; decide)
    simp only [e, List.getElem_cons_zero, List.getElem_cons_succ] at k0 k1 k2 k3 k4
    obtain ⟨u0, c0, r0⟩ := k0
    obtain ⟨u1, c1, r1⟩ := k1
    obtain ⟨u2, c2, r2⟩ := k2
    obtain ⟨u3, c3, r3⟩ := k3
    obtain ⟨u4, c4, r4⟩ := k4
    cases rdw_raw r0
    cases rdw_raw r1
    cases rdw_raw r2
    cases rdw_raw r3
    obtain ⟨A2, cap2, rfl, _⟩ := YtedpnmlgbjcpcaaGreatDoor.collect.kid_cells r4
    exact ⟨b, off, A2, cap2, rfl, c0, c1, c2, c3, c4, r4⟩
def Kno (w : World) (base : Nat) (kv : Value) (p : List Pr) (i N : Nat) : Prop :=
  ∃ bs : List Nat, bs.length = i ∧ w.ownsRow base 102 1 kv i (bs.map fun b => Value.map (some b)) ∧ (∀ b ∈ bs, base ≤ b) ∧ ∀ j (h : j < bs.length), MapIs w bs[j] N ((knU p i).getD j [])
theorem Kno.zero (w : World) (base : Nat) (p : List Pr) (N : Nat) : Kno w base (.slice none 0 0) p 0 N := ⟨[], rfl, World.ownsRow_nil _ _ _ _, by simp, by simp⟩
theorem Kno.kept {w w' : World} {base : Nat} {kv : Value} {p : List Pr} {i N : Nat} {row : Option Nat} (h : Kno w base kv p i N) (hg : w.grownBy w' row) (hf : ∀ j, row = some j → w.heap.size ≤ j) : Kno w' base kv p i N := by
  obtain ⟨bs, h1, h2, h3, h4⟩ := h
  refine ⟨bs, h1, h2.kept hg ?_, h3, fun j hj => (h4 j hj).kept hg fun e => ?_⟩
  · cases e : kv.ownBlock with
    | none => exact .inl rfl
    | some g =>
      right
      intro e2
      have := (h2.lt g e).2
      have := hf g e2.symm
      omega
  · have := (h4 j hj).lt
    have := hf _ e.symm
    omega
theorem knw_of {w : World} {base : Nat} {kv : Value} {p : List Pr} {i N B : Nat} (h : Kno w base kv p i N) (hi : i ≤ p.length) (hB : w.heap.size ≤ B) : KnW w kv (knU p i) B N := by
  obtain ⟨bs, h1, h2, h3, h4⟩ := h
  have hl := knU_len (p := p) hi
  rcases h2.2 with ⟨rfl, h0⟩ | ⟨g, cap, cur, rfl, hb, hg, g1, g2, g3, g4⟩
  · exact ⟨⟨none, 0, by rw [hl, h0]⟩, fun j hj => by omega⟩
  · refine ⟨⟨_, cap, by rw [hl]⟩, fun j hj => ?_⟩
    have hj' : j < bs.length := by omega
    have hm := h4 j hj'
    refine ⟨g, 0, cap, bs[j], by rw [hl], ?_, ?_, ?_⟩
    · have := h2.cells rfl j (.map (some bs[j])) (by simp [hj'])
      have ha : Addr.add ⟨g, 0, none⟩ j = ⟨g, 0 + j, none⟩ := by
        unfold Addr.add
        split
        · rename_i e; subst e; simp
        · simp
      rwa [ha] at this
    · have := hm.lt; omega
    · have e : (knU p i).getD j [] = (knU p i)[j] := by simp [List.getD_eq_getElem?_getD, hj]
      rw [e] at hm
      exact hm
theorem own_ne_map {w : World} {base : Nat} {e : TypeId} {size : Nat} {v : Value} {n : Nat} {xs : List Value} (h : w.ownsRow base e size v n xs) {b N : Nat} {ks : List ByteArray} (hm : MapIs w b N ks) : some b ≠ v.ownBlock := by
  obtain ⟨es, c, hb⟩ := hm.isMap
  rcases h.2 with ⟨rfl, _⟩ | ⟨g, cap, cur, rfl, _, hg, _⟩
  · simp [Value.ownBlock]
  · intro e
    simp only [Value.ownBlock, Option.some.injEq] at e
    subst e
    rw [hb] at hg
    cases hg
theorem own_ne_owns {w : World} {base : Nat} {e : TypeId} {size : Nat} {v : Value} {n : Nat} {xs : List Value} (h : w.ownsRow base e size v n xs) {b N : Nat} {D : DataW Unit} {P : Program} {k : TypeId} {R : Value → Option (DataW Unit × List MemPlace)} (hm : w.ownsMap P k R b N D) : some b ≠ v.ownBlock := by
  obtain ⟨es, c, hb, _⟩ := hm
  rcases h.2 with ⟨rfl, _⟩ | ⟨g, cap, cur, rfl, _, hg, _⟩
  · simp [Value.ownBlock]
  · intro e
    simp only [Value.ownBlock, Option.some.injEq] at e
    subst e
    rw [hb] at hg
    cases hg
theorem sorted_one {L : List ByteArray} (hL : StrictU L) {ss : List Bs} (hn : ss.Nodup) (hm : ∀ x, x ∈ ss ↔ ofBs x ∈ L) : (ss.mergeSort fun x y => decide (x ≤ y)).map ofBs = L := by
  have hp := List.mergeSort_perm ss fun x y => decide (x ≤ y)
  refine strict_one ?_ hL fun y => ?_
  · have h1 := List.pairwise_mergeSort (le := fun x y : Bs => decide (x ≤ y)) (fun a b c h1 h2 => by simp only [decide_eq_true_eq] at *; exact List.le_trans h1 h2) (fun a b => by simp only [Bool.or_eq_true, decide_eq_true_eq]; exact List.le_total a b) ss
    have h2 : (ss.mergeSort fun x y => decide (x ≤ y)).Nodup := hp.symm.nodup hn
    refine List.pairwise_map.2 ((h1.and h2).imp fun {a b} h => ?_)
    obtain ⟨h3, h4⟩ := h
    simp only [decide_eq_true_eq] at h3
    simp only [bsOf_ofBs]
    rcases List.le_iff_lt_or_eq.1 h3 with h | h
    · exact h
    · exact absurd h h4
  · constructor
    · intro h
      obtain ⟨x, hx, rfl⟩ := List.mem_map.1 h
      exact (hm x).1 (hp.mem_iff.1 hx)
    · intro h
      refine List.mem_map.2 ⟨bsOf y, hp.mem_iff.2 ((hm _).2 (by rw [ofBs_bsOf]; exact h)), ofBs_bsOf y⟩
theorem valid_fm {p : List Pr} {rs : List ByteArray} {asked : Bool} (h : ∀ i (hi : i < p.length), prE p rs asked i p[i] = 0) : ∀ q ∈ p, q.body.Fm := by
  intro q hq
  obtain ⟨i, hi, rfl⟩ := List.getElem_of_mem hq
  have h4 := h i hi
  unfold prE at h4
  by_cases e1 : nameB p[i].name = false
  · rw [if_pos e1] at h4; cases h4
  rw [if_neg e1] at h4
  by_cases e2 : placeR p p[i].name < i
  · rw [if_pos e2] at h4; cases h4
  rw [if_neg e2] at h4
  by_cases e3 : 60 < p[i].body.size ∨ 6 < p[i].body.depth
  · rw [if_pos e3] at h4; cases h4
  rw [if_neg e3] at h4
  exact cmd_fm _ _ (Nat.lt_succ_self _) h4
end Go.AM
namespace Go.Proofs.YtedpnmlgbjcpcaaGreatDoor.uses
open Go Go.Proofs Go.RowKit Go.AM Go.Maps Go.Sort
theorem info9 : (Tryz.prog.info? 9).map (fun i => (i.zero, i.size, i.bytes)) = some (some (.string ⟨#[]⟩), 1, 16) := by kernel_rfl
theorem infoM : (Tryz.prog.info? 102).map (fun i => (i.zero, i.size, i.bytes)) = some (some (.map none), 1, 8) := by kernel_rfl
def Post (l : List ByteArray) (er : Int) (w : World) (e : Ending) (w' : World) : Prop :=
  ∃ v, e = .returned (.tuple #[v, .int .i64 er]) ∧ w'.ownsRow w.heap.size 9 1 v l.length (l.map fun s => Value.string s) ∧ Below w.heap.size w w'
theorem Post.nil {er : Int} {w w' : World} (h : w.grownBy w' none) : Post [] er w (.returned (.tuple #[.slice none 0 0, .int .i64 er])) w' :=
  ⟨_, rfl, World.ownsRow_nil _ _ _ _, h.os, h.tape, h.output, h.size, fun k hk => h.block k hk (by simp)⟩
set_option maxHeartbeats 4000000 in
set_option maxRecDepth 100000 in
theorem any (p : List Pr) (rs : List ByteArray) (s : ByteArray) (hp : PrsOk p) (hr : rs.length ≤ 999999) (pv rv : Value) (w : World) (hpv : Rdw w (prs p) pv) (hrv : Rdw w (rules46 rs) rv) :
    Calls Tryz.prog 19 #[.agg #[pv], rv, .string s] w (Post (usesR p rs s).1 (usesR p rs s).2 w) := by
  have hmm := @run_makeMap Tryz.prog
  obtain ⟨i9, hi9, hz90, hz91, hz92⟩ := info_parts info9
  obtain ⟨im, him, hzm0, hzm1, hzm2⟩ := info_parts infoM
  have hal := World.grownBy_alloc w (.cells #[pv] 24) none
  have hfa := fault_k p rs hp (by omega) (w.alloc (.cells #[pv] 24)) pv rv (rdw_grown hal (by simp) hpv) (rdw_grown hal (by simp) hrv)
  obtain ⟨U, hU⟩ : ∃ U, usesR p rs s = U := ⟨_, rfl⟩
  rw [hU]
  unfold usesR at hU
  have hval := fault_valid (p := p) (rs := rs) (asked := true)
  generalize faultR p rs true = F at *
  by_cases he : F.2 = 0
  · have be : (F.2 != 0) = false := by simp [he]
    rw [if_neg (by simp [he])] at hU
    obtain ⟨hv, h20, h1p, hpe⟩ := hval he
    have hfdep := fault_depth hpe
    have hir := valid_rules hpe
    have hfm := valid_fm hpe
    rw [he] at hfa
    generalize F.1 = F1 at hfa
    clear be he hval hpe
    have hrg := placeR_lt p s
    obtain ⟨A, cap, rfl, hcap, hcell⟩ := proc_cells hpv
    by_cases hneg : placeR p s < 0
    · rw [if_pos hneg] at hU
      subst hU
      go_enter Tryz.func19, Tryz.ntmps19
      go_wp2_with (first | (go_at_call 39; refine hfa.mono ?_) | go_in)
      rintro e w1 ⟨rfl, hg1⟩
      have hg01 := Gb.trans hal hg1
      have hpl := place_k p s hp.len w1 _ (rdw_grown hg01 (by simp) hpv)
      have hc0 : w1.cell? ⟨w.heap.size, 0, none⟩ = some (.slice A p.length cap) := hg1.cell (by simp) (by simp)
      go_wp2_with (first | (go_at_call 56; refine hpl.mono ?_) | go_in)
      rintro e w2 ⟨rfl, hg2⟩
      go_wp2
      go_ret2
      exact Post.nil (Gb.trans hg01 hg2)
    rw [if_neg hneg] at hU
    obtain ⟨k, hk⟩ : ∃ k : Nat, placeR p s = k := ⟨(placeR p s).toNat, by omega⟩
    rw [hk] at hU hrg hneg
    rw [Int.toNat_natCast] at hU hrg
    have hkl : k < p.length := by omega
    obtain ⟨b0, off0, rfl⟩ : ∃ b off, A = some ⟨b, off, none⟩ := by obtain ⟨b, off, _, _, h, _⟩ := hcell k hkl; exact ⟨b, off, h⟩
    have hwk : IntKind.i64.wrap ((k : Int) + 1) = ((k + 1 : Nat) : Int) := by rw [wrap_in (by omega) (by omega)]; rfl
    have hk1 : (k : Int) + 1 ≤ cap := by omega
    go_enter Tryz.func19, Tryz.ntmps19
    go_wp2_with (first
      | (go_at_call 39; refine hfa.mono ?_; rintro e w1 ⟨rfl, hg1⟩; have hg01 := Gb.trans hal hg1; have hpl := place_k p s hp.len w1 _ (rdw_grown hg01 (by simp) hpv); rw [hk] at hpl; have hc0 : w1.cell? ⟨w.heap.size, 0, none⟩ = some (.slice (some ⟨b0, off0, none⟩) p.length cap) := hg1.cell (by simp) (by simp))
      | (go_at_call 56; refine hpl.mono ?_; rintro e w2 ⟨rfl, hg2⟩; have hc2 : w2.cell? ⟨w.heap.size, 0, none⟩ = some (.slice (some ⟨b0, off0, none⟩) p.length cap) := hg2.cell hc0 (by simp))
      | go_in)
    have hg02 := Gb.trans hg01 hg2
    have hs2 : w.heap.size < w2.heap.size := by have := hg1.size; have := hg2.size; simp at *; omega
    clear hfa hpl hc0 hg1 hg2 hg01
    go_loopw [11, 37] (fun kv v wr => ∃ i : Nat, i ≤ k + 1 ∧ v = .int .i64 i ∧ Kno wr w2.heap.size kv p i rs.length ∧ Below w2.heap.size w2 wr) (fun _ v _ => k + 1 - (intOf v).toNat)
    case atStart => exact ⟨0, Nat.zero_le _, rfl, Kno.zero _ _ _ _, Below.refl _ _⟩
    case round =>
      obtain ⟨i, hi, rfl, hkno, hnx⟩ := hrel
      have hszr := hnx.size
      have d0 : wr.cell? ⟨w.heap.size, 0, none⟩ = some (.slice (some ⟨b0, off0, none⟩) p.length cap) := (hnx.cell (by exact hs2)).trans hc2
      by_cases hlt : i < k + 1
      · have hip : i < p.length := by omega
        have hlt' : (i : Int) < (k : Int) + 1 := by omega
        have hq := List.getElem_mem hip
        obtain ⟨b1, off1, A2, cap2, e1, c0, c1, c2, c3, c4, hkd⟩ := hcell i hip
        obtain ⟨rfl, rfl⟩ : b0 = b1 ∧ off0 = off1 := by injection e1 with e1; injection e1 with e1 e2; exact ⟨e1, e2⟩
        clear e1
        obtain ⟨bs, hbl, hown, hbb, hmaps⟩ := hkno
        have tr : ∀ {a : Addr} {v : Value}, w.cell? a = some v → wr.cell? a = some v := fun {a} {v} h => by
          have h2 := hg02.cell h (by simp)
          exact (World.cell?_of_block (w := w2) (hnx.block a.block (lt_of_cell h2))).trans h2
        have d1 := tr c0
        have d2 := tr c1
        have d3 := tr c2
        have d4 := tr c3
        have d5 := tr c4
        obtain ⟨hn1, hn2, hn3⟩ := hfdep _ hq
        have hfq := hfm _ hq
        have hku := knU_ok hir i (by omega)
        have hin := uC_in (p := p) hku.mem _ p[i].body (Nat.lt_succ_self _) (hir _ hq)
        have hsucc := knU_succ hip
        have hco : CallsOk p (knU p i).length p[i].body := by rw [knU_len (by omega)]; exact hv i hip
        have hgw : w.grownBy wr none := ⟨hnx.os.trans hg02.os, hnx.tape.trans hg02.tape, hnx.output.trans hg02.output, Nat.le_trans hg02.size hnx.size, fun j hj _ => (hnx.block j (Nat.lt_of_lt_of_le hj hg02.size)).trans (hg02.block j hj (by simp))⟩
        generalize p[i] = q at *
        have ha1 := World.grownBy_alloc wr (.cells #[.string q.name, .int .i64 q.body.kind, .string q.body.name, .int .i64 q.body.num, .slice A2 q.body.kids.length cap2] 53) none
        have ha2 := World.grownBy_alloc (wr.alloc (.cells #[.string q.name, .int .i64 q.body.kind, .string q.body.name, .int .i64 q.body.num, .slice A2 q.body.kids.length cap2] 53)) (.map #[] 0) none
        have ha := Gb.trans ha1 ha2
        have hmk := MapIs.made (wr.alloc (.cells #[.string q.name, .int .i64 q.body.kind, .string q.body.name, .int .i64 q.body.num, .slice A2 q.body.kids.length cap2] 53))
        have hBsz : (wr.alloc (.cells #[.string q.name, .int .i64 q.body.kind, .string q.body.name, .int .i64 q.body.num, .slice A2 q.body.kids.length cap2] 53)).heap.size = wr.heap.size + 1 := by simp
        rw [hBsz] at hmk
        have hkw : KnW ((wr.alloc (.cells #[.string q.name, .int .i64 q.body.kind, .string q.body.name, .int .i64 q.body.num, .slice A2 q.body.kids.length cap2] 53)).alloc (.map #[] 0)) u11 (knU p i) (wr.heap.size + 1) rs.length :=
          ((knw_of ⟨bs, hbl, hown, hbb, hmaps⟩ (by omega) (by omega)).alloc _).alloc _
        have hcall := YtedpnmlgbjcpcaaGreatDoor.collect.any p hp.len (knU p i) (rs.length + 1) (by omega) (by omega) (fun l hl => by have := hku.len l hl; omega) _ q.body (Nat.lt_succ_self _) (by omega) hfq hco (.slice (some ⟨b0, off0, none⟩) p.length cap) (.slice A2 q.body.kids.length cap2) u11 (wr.heap.size + 1) 0 rs.length []
          ((wr.alloc (.cells #[.string q.name, .int .i64 q.body.kind, .string q.body.name, .int .i64 q.body.num, .slice A2 q.body.kids.length cap2] 53)).alloc (.map #[] 0))
          (by have := Nat.mul_le_mul hn2 (show rs.length + 1 ≤ 1000000 by omega); omega) (rdw_grown (Gb.trans hgw ha) (by simp) hpv) (rdw_grown (Gb.trans hgw ha) (by simp) hkd) hmk hkw
        have d6 : ((wr.alloc (.cells #[.string q.name, .int .i64 q.body.kind, .string q.body.name, .int .i64 q.body.num, .slice A2 q.body.kids.length cap2] 53)).alloc (.map #[] 0)).cell? ⟨w.heap.size, 0, none⟩ = some (.slice (some ⟨b0, off0, none⟩) p.length cap) := ha.cell d0 (by simp)
        clear hcell hpv hrv hkd hgw hmk hkw tr ha1 ha2 hBsz
        go_wp2_with (first
          | (go_at_call 57; refine hcall.mono ?_; rintro e w4 ⟨rfl, hB4, hg4⟩; have hg5 : wr.grownBy w4 (some (wr.heap.size + 1)) := Gb.trans (Gb.none ha) hg4; obtain ⟨bs4, hbl4, hown4, hbb4, hm4⟩ := Kno.kept ⟨bs, hbl, hown, hbb, hmaps⟩ hg5 (fun j e => by injection e with e; omega))
          | (at_builtin; refine wpList_append_own _ rfl _ _ 101 rfl w2.heap.size 102 im (.map none) 1 8 Tryz.underlying101 him hzm0 hzm1 hzm2 rfl (by decide) _ _ _ rfl (hown4.alloc _) ⟨w4.heap.size, 0, none⟩ 1 1 [.map (some (wr.heap.size + 1))] rfl rfl ?c1 ?c2 ?c3 ?c4 ?c5 ?_)
          | go_in)
        case c1 =>
          intro j u hj
          match j, hj with
          | 0, hj => simp at hj; subst hj; simp [Addr.add]
        case c2 => intro u hu; simp at hu; subst hu; rfl
        case c3 => unfold maxLen; omega
        case c4 => omega
        case c5 => have := hg5.size; simp; omega
        intro v' w5 hown5 hg6 hnil5
        have hg7 : (w4.alloc (.cells #[.map (some (wr.heap.size + 1))] 102)).heap.size = w4.heap.size + 1 := by simp
        have hkn5 : Kno w5 w2.heap.size v' p (i + 1) rs.length := by
          refine ⟨bs4 ++ [wr.heap.size + 1], by simp [hbl4], by simpa using hown5, fun b hb => ?_, fun j hj => ?_⟩
          · rcases List.mem_append.1 hb with hb | hb
            · exact hbb4 b hb
            · simp at hb; omega
          · have hkl0 := knU_len (p := p) (n := i) (by omega)
            rw [hsucc]
            by_cases hji : j < bs4.length
            · rw [List.getElem_append_left hji, List.getD_eq_getElem?_getD, List.getElem?_append_left (by omega), ← List.getD_eq_getElem?_getD]
              exact ((hm4 j hji).alloc _).kept hg6 (own_ne_map hown4 (hm4 j hji))
            · obtain rfl : j = bs4.length := by simp at hj; omega
              rw [List.getElem_append_right (by omega), List.getD_eq_getElem?_getD, List.getElem?_append_right (by omega)]
              simp only [Nat.sub_self, List.getElem_cons_zero, hkl0, hbl4, List.getElem?_cons_zero, Option.getD_some]
              have h1 := (hB4.alloc (.cells #[.map (some (wr.heap.size + 1))] 102)).kept hg6 (own_ne_map hown4 hB4)
              have h2 : MapIs w5 (wr.heap.size + 1) (sortU (uC p (knU p i) q.body)).length (sortU (uC p (knU p i) q.body)) :=
                (h1.tight (l := sortU (uC p (knU p i) q.body)) fun y hy => mem_sortU.2 (by simpa using hy)).congr fun y => by rw [mem_sortU]; simp
              exact h2.mono (sortU_len_le hin)
        have hnx5 : Below w2.heap.size w2 w5 := by
          refine ⟨hg6.os.trans (hg5.os.trans hnx.os), hg6.tape.trans (hg5.tape.trans hnx.tape), hg6.output.trans (hg5.output.trans hnx.output), ?_, fun j hj => ?_⟩
          · have := hg6.size; have := hg5.size; omega
          · have h1 := hg6.block j (by rw [hg7]; have := hg5.size; omega) (fun e => by have := (hown4.lt j e.symm).1; omega)
            have h2 : (w4.alloc (.cells #[.map (some (wr.heap.size + 1))] 102)).heap[j]? = w4.heap[j]? := (World.grownBy_alloc w4 _ none).block j (by have := hg5.size; omega) (by simp)
            exact h1.trans (h2.trans ((hg5.block j (by omega) (fun e => by injection e with e; omega)).trans (hnx.block j hj)))
        clear hg6 hg7 hg5 hcall hown5 hm4 hB4 hown4 hmaps hown d6 d5 d4 d3 d2 d1 c0 c1 c2 c3 c4 ha
        go_wp2
        exact ⟨⟨i + 1, by omega, by simp, hkn5, hnx5⟩, by simp [intOf]; omega⟩
      · obtain rfl : i = k + 1 := by omega
        have hge : ¬ ((k : Int) + 1 < (k : Int) + 1) := by omega
        obtain ⟨bs, hbl, hown, hbb, hmaps⟩ := hkno
        have hku := knU_ok hir (k + 1) (by omega)
        obtain ⟨L, hL⟩ : ∃ L, (knU p (k + 1)).getD k [] = L := ⟨_, rfl⟩
        have hmem : L ∈ knU p (k + 1) := by
          have := knU_len (p := p) (n := k + 1) (by omega)
          rw [← hL, List.getD_eq_getElem?_getD, List.getElem?_eq_getElem (by omega)]
          exact List.getElem_mem _
        have hLl := hku.len L hmem
        have hLs := hku.strict L hmem
        rw [hL] at hU
        have hkb : k < bs.length := by omega
        have hmk := hmaps k hkb
        rw [hL] at hmk
        rcases hown.2 with ⟨_, h0⟩ | ⟨g, gcap, cur, rfl, _, _, _⟩
        · omega
        have hck : wr.cell? ⟨g, k, none⟩ = some (.map (some bs[k])) := by
          have := hown.cells rfl k (.map (some bs[k])) (by simp [hkb])
          have ha : Addr.add ⟨g, 0, none⟩ k = ⟨g, k, none⟩ := by
            unfold Addr.add
            split
            · rename_i e; subst e; rfl
            · simp
          rwa [ha] at this
        generalize bs[k] = bj at *
        obtain ⟨D0, hmo, hmm2⟩ := hmk
        have hkl2 : (k : Int) < ((k + 1 : Nat) : Int) := by omega
        have hw0 : Below w.heap.size w wr := ⟨hnx.os.trans hg02.os, hnx.tape.trans hg02.tape, hnx.output.trans hg02.output, Nat.le_trans hg02.size hnx.size, fun j hj => (hnx.block j (Nat.lt_of_lt_of_le hj hg02.size)).trans (hg02.block j hj (by simp))⟩
        have hbjl := hmo.lt
        clear hcell hpv hrv hmaps hown d0 hc2 hg02 hnx hv hfdep hir hfm hku hmem hbb hp
        go_wp2_with (first | (at_range; refine wpList_range_own _ rfl _ 102 rfl 9 4 lawStr Tryz.underlying102 _ bj _ D0 rfl hmo ?_; intro wa hrg0 hg0 hs0) | go_in)
        have hwa : Below w.heap.size w wa := hw0.grown hg0 (by omega) (fun j hj => by cases hj)
        have hRl : w.heap.size ≤ wr.heap.size := hw0.size
        clear hw0 hszr hs0 hmo
        generalize wr.heap.size = R at *
        go_loopw [15] (fun v wb => ∃ (left : Lit → Bool) (cnt : Nat) (ss : List Bs), wb.ranges Tryz.prog 9 (plainElem Tryz.prog 4) bj R rs.length D0 left cnt ∧ Collected D0 left ss ∧ ss.length ≤ L.length ∧
          wb.ownsRow w.heap.size 9 1 v ss.length (ss.map encStr) ∧ Below w.heap.size w wb) (fun _ wb => wb.rangeLeft bj R)
        case atStart => exact ⟨_, _, [], hrg0, Collected.start D0, Nat.zero_le _, World.ownsRow_nil _ _ _ _, hwa⟩
        case round =>
          clear hrg0 hg0 hwa hck
          obtain ⟨left, cnt, ss, hrg, hC, hsl, hrow, hnx⟩ := hrel
          have hsz := hnx.size
          go_wp2_with (first
            | (at_next; refine wpList_next_ranges _ rfl _ rfl 9 lawStr (plainElem Tryz.prog 4) encStr (fun v : Value => v) (fun key kl h => by obtain ⟨x, hx, _⟩ := Maps.keyOf_str Tryz.underlying9 h; exact ⟨x, hx⟩) (fun v y h => ⟨v, rfl⟩) bj R _ _ _ _ rfl hrg ?_ ?_)
            | go_in)
          · intro hc0 hl0
            have hfin := sorted_one hLs hC.1 (fun x => by rw [← hmm2, bsOf_ofBs, hC.2]; simp [hl0])
            subst hU
            have hLL : L.map (fun s => Value.string s) = (ss.mergeSort fun x y => decide (x ≤ y)).map encStr := by rw [← hfin, List.map_map]; rfl
            have hLen : L.length = ss.length := by rw [← hfin, List.length_map, List.length_mergeSort]
            rcases hrow.2 with ⟨rfl, h0⟩ | ⟨g2, cap3, cur3, rfl, hbase, hb, h1, h2, h3, h4⟩
            · have hc := Tryz.slices_Sort_string_none none 0 wr
              obtain rfl : ss = [] := List.length_eq_zero_iff.1 h0
              have hL0 : L = [] := List.length_eq_zero_iff.1 hLen
              subst hL0
              go_wp2_with (first | (go_at_call 29; refine hc.mono ?_; rintro e w' ⟨rfl, rfl⟩) | go_in)
              go_ret2
              exact ⟨_, rfl, World.ownsRow_nil _ _ _ _, hnx⟩
            · have hH : Holds encStr wr g2 0 ss.toArray := holds_of_block hb (by simpa using h4)
              have hc := Tryz.slices_Sort_string g2 0 cap3 ss wr hH (Array.getElem?_eq_some_iff.1 hb).1 (by omega)
              go_wp2_with (first | (go_at_call 29; refine hc.mono ?_; rintro e w' ⟨rfl, nn, os, rfl⟩) | go_in)
              go_ret2
              refine ⟨_, rfl, ?_, hnx.grown (grownBy_sorted _) hnx.size (fun j hj => by cases hj; exact hbase)⟩
              rw [hLL, hLen]
              exact ownsRow_sorted (by simp) hbase hb h1 h2 h3
          · intro x c kl yd yp wc cnt3 hkey hlk hv hat hrg3 hlt3 hg3 hs3 hen
            obtain ⟨x', ex, rfl, hxl⟩ := Maps.keyOf_str Tryz.underlying9 hkey
            obtain rfl : x = x' := encStr_inj ex
            have hC3 := hC.step hlk hat
            have hbd : (ss ++ [x]).length ≤ L.length := by
              have h1 : ((ss ++ [x]).map ofBs).Nodup := by
                refine List.pairwise_map.2 (hC3.1.imp fun {a b} hab e => hab ?_)
                have := congrArg bsOf e
                simpa using this
              have h2 := h1.length_le_of_subset (l₂ := L) fun y hy => by
                obtain ⟨z, hz, rfl⟩ := List.mem_map.1 hy
                exact (hmm2 _).1 (by rw [bsOf_ofBs]; exact ((hC3.2 z).1 hz).1)
              simpa using h2
            have hbd2 : ss.length + 1 ≤ 999999 := by simp at hbd; omega
            have hrow3 := hrow.kept hg3 (Or.inr (row_ne_iter hrow hrg).symm)
            have hnx3 : Below w.heap.size w wc := hnx.grown hg3 hnx.size (fun j hj => by injection hj with hj; subst hj; exact hRl)
            clear hs3
            go_wp2_with (first
              | (at_builtin; refine wpList_append_own _ rfl _ _ 34 rfl w.heap.size 9 i9 (.string ⟨#[]⟩) 1 16 Tryz.underlying34 hi9 hz90 hz91 hz92 rfl (by decide) _ _ _ rfl (hrow3.alloc _) ⟨wc.heap.size, 0, none⟩ 1 1 [encStr x] rfl rfl ?c1 ?c2 ?c3 ?c4 ?c5 ?_)
              | go_in)
            case c2 => rfl
            case c3 => unfold maxLen; omega
            case c4 => omega
            case c5 => have := hnx3.size; simp; omega
            intro v' wd hown' hg4 hnil4
            have hrg4 := (hrg3.alloc (.cells #[encStr x] 9)).kept hg4 (own_ne_owns hrow3 hrg3.owns) (row_ne_iter hrow3 hrg3)
            have hnx4 : Below w.heap.size w wd := (hnx3.alloc (by have := hnx3.size; omega) _).grown hg4 (by have := hnx3.size; simp; omega) (fun j hj => (hrow3.lt j hj).1)
            have hown2 : wd.ownsRow w.heap.size 9 1 v' (ss ++ [x]).length ((ss ++ [x]).map encStr) := by simpa using hown'
            clear hown' hg4 hg3 hrow hrow3 hnx hnx3
            go_wp2
            exact ⟨⟨_, cnt3, ss ++ [x], hrg4, hC3, hbd, hown2, hnx4⟩, by rw [hrg4.left_eq, hrg.left_eq]; exact hlt3⟩
  · have be : (F.2 != 0) = true := by simp [he]
    rw [if_pos he] at hU
    subst hU
    go_enter Tryz.func19, Tryz.ntmps19
    go_wp2_with (first | (go_at_call 39; refine hfa.mono ?_) | go_in)
    rintro e w1 ⟨rfl, hg1⟩
    go_wp2
    go_ret2
    exact Post.nil (Gb.trans hal hg1)
end Go.Proofs.YtedpnmlgbjcpcaaGreatDoor.uses
namespace Go.AM
open Go Go.Proofs Go.RowKit
theorem rvd_ownS {G : Gh} {w w' : World} {m : AMem} (hm : RelM G m w) {v : Value} {xs : List ByteArray} (h : w'.ownsRow w.heap.size 9 1 v xs.length (xs.map fun s => Value.string s)) : RVd w'.cell? G.ps (strs xs) v := by
  rcases h.2 with ⟨rfl, h0⟩ | ⟨g, cap, cur, rfl, hb, hg, h1, h2, h3, h4⟩
  · obtain rfl : xs = [] := List.length_eq_zero_iff.1 h0
    exact .sl (es := []) (fun _ _ => default) (Nat.le_refl _) (by decide) (by simp) (by simp) (by simp) (by simp)
  · have hl : xs.length = (xs.map fun n => [D.raw (.string n)]).length := by simp
    have hat : ∀ i, i < xs.length → cur[i]? = some (.string (xs.getD i ⟨#[]⟩)) := fun i hi => by
      have e : (cur.toList.take (xs.length * 1))[i]? = (xs.map (fun s => Value.string s))[i]? := by rw [h4]
      rw [List.getElem?_take, if_pos (by omega), Array.getElem?_toList, List.getElem?_map, List.getElem?_eq_getElem hi] at e
      rw [e]
      simp [hi]
    conv => rhs; rw [hl]
    refine .sl (fun i _ => .string (xs.getD i ⟨#[]⟩)) (by simpa using h1) h2 (fun e he => ?_) (fun _ => ⟨_, rfl⟩) (fun a ha i j hi hj => ?_) (fun i j hi hj => ?_)
    · obtain ⟨y, _, rfl⟩ := List.mem_map.1 he
      rfl
    · cases ha
      have hi' : i < xs.length := by simpa using hi
      have hj0 : j = 0 := by omega
      subst hj0
      refine ⟨?_, ?_⟩
      · unfold Gh.ps
        have hbl : (Addr.add ⟨g, 0, none⟩ (i * 1 + 0)).block = g := by unfold Addr.add; split <;> rfl
        rw [hbl, hm.fresh g hb]
        trivial
      · have ha : Addr.add ⟨g, 0, none⟩ (i * 1 + 0) = ⟨g, i, none⟩ := by
          unfold Addr.add
          split
          · rename_i h0; congr 1; omega
          · simp
        rw [ha]
        simp only [World.cell?, hg, Option.isSome_none, Bool.false_eq_true, if_false]
        exact hat i hi'
    · simp only [List.length_map] at hi
      simp only [List.getElem_map, List.length_cons, List.length_nil] at hj ⊢
      have hj0 : j = 0 := by omega
      subst hj0
      have e : xs.getD i ⟨#[]⟩ = xs[i] := by simp [hi]
      simp only [List.getElem_cons_zero, e]
      exact .raw rfl
theorem uses_c (p : List Pr) (rs : List ByteArray) (s : ByteArray) (hp : PrsOk p) (hr : rs.length ≤ 999999) (tok : Nat → Bool) (nt : Nat) :
    DCall Tryz.prog 19 [prsAv p, .d (rules46 rs), Sb s] tok nt (.tup [.d (strs (usesR p rs s).1), I (usesR p rs s).2]) tok nt := by
  intro box nb
  refine ⟨Enters.mk Tryz.func19 rfl (by kernel_rfl), fun G w vals hm hr0 => ?_⟩
  obtain ⟨hlen, hrv⟩ := hr0
  match vals, hlen with
  | [v0, v1, v2], _ =>
    have h0 := hrv 0 (by simp) (by simp)
    have h1 := hrv 1 (by simp) (by simp)
    have h2 := hrv 2 (by simp) (by simp)
    simp only [List.getElem_cons_zero, List.getElem_cons_succ] at h0 h1 h2
    have tr : ∀ {x : D} {v : Value}, RVd w.cell? G.ps x v → Rdw w x v := fun h => h.mono fun a u _ hc => ⟨trivial, hc⟩
    cases h1 with | d h1 =>
    cases h2 with | d h2 =>
    cases h2
    cases h0 with
    | @agg _ vs hl hv ho =>
      match vs, hl with
      | [pv], _ =>
        have hv0 := hv 0 (by simp) (by simp)
        simp only [List.getElem_cons_zero] at hv0
        cases hv0 with | d hv0 =>
        refine (YtedpnmlgbjcpcaaGreatDoor.uses.any p rs s hp hr pv v1 w (tr hv0) (tr h1)).mono ?_
        rintro e w' ⟨v, rfl, hown, hb⟩
        refine ⟨_, _, _, G, rfl, ⟨rfl, rfl⟩, rfl, Bw.rel hm hb, ?_, Bw.le hm hb, fun k hk => ⟨hk, rfl⟩⟩
        exact .tup (vs := [v, .int .i64 (usesR p rs s).2]) rfl fun i h1 h2 => (RVs.cons (.d (rvd_ownS hm hown)) (RVs.cons (.d (.raw rfl)) RVs.nil)).2 i h1 h2
end Go.AM
namespace Go.AM
open Go Go.Proofs Go.RowKit
theorem liesW : liesAt Tryz.prog Tryz.prog.depth 78 (2 / Tryz.prog.cellsOf 78) 0 63 1 = true := by kernel_rfl
theorem rep_pad (n : Nat) : (⟨(Lib.repeatL [32, 32] n).toArray⟩ : ByteArray) = padR n := by
  have key : ∀ n, (padR n).data.toList = Lib.repeatL [32, 32] n ∧ Lib.repeatL [32, 32] n ++ [32, 32] = [32, 32] ++ Lib.repeatL [32, 32] n := by
    intro n
    induction n with
    | zero => exact ⟨rfl, rfl⟩
    | succ n ih =>
      refine ⟨?_, ?_⟩
      · rw [padR, ByteArray.data_append, Array.toList_append, ih.1, Lib.repeatL]
        exact ih.2
      · rw [Lib.repeatL, List.append_assoc, ih.2]
  rw [← (key n).1]
theorem rep_c (n : Nat) (hn : n ≤ 1000) (tok : Nat → Bool) (nt : Nat) : DCall Tryz.prog 76 [Sb ⟨#[32, 32]⟩, I n] tok nt (Sb (padR n)) tok nt := by
  intro box nb
  refine ⟨Enters.mk Tryz.func76 rfl (by kernel_rfl), fun G w vals hm hr => ?_⟩
  obtain ⟨hlen, hrv⟩ := hr
  match vals, hlen with
  | [v, u], _ =>
    have h0 := hrv 0 (by simp) (by simp)
    have h1 := hrv 1 (by simp) (by simp)
    simp only [List.getElem_cons_zero, List.getElem_cons_succ] at h0 h1
    cases h0 with | d h0 =>
    cases h1 with | d h1 =>
    cases h0
    cases h1
    refine (Tryz.strings_Repeat ⟨#[32, 32]⟩ n w (by omega) (by show 2 * n ≤ _; omega)).mono ?_
    rintro e w' ⟨rfl, hb⟩
    refine ⟨_, _, _, G, rfl, ⟨rfl, rfl⟩, rfl, Bw.rel hm hb, ?_, Bw.le hm hb, fun k hk => ⟨hk, rfl⟩⟩
    have := rep_pad n
    rw [show (⟨#[32, 32]⟩ : ByteArray).data.toList = [32, 32] from rfl, this]
    exact .d (.raw rfl)
abbrev WrT : TypeId := 78
set_option maxRecDepth 100000 in
theorem line_c (k nb : Nat) (box : Nat → Option (List (List AV))) (tok : Nat → Bool) (nt : Nat) (x y : AV) (o : Own) (s : ByteArray) (hs : Wst WrT k s x y o) (hk : box k = some [[x, y]]) (hl : o.liveP tok) (ind : Nat) (hi : ind ≤ 100) (t : ByteArray) (hz : s.size + (lineR ind t).size ≤ 1000000000) :
    ACalls Tryz.prog 40 [.ptr k 0 0, I ind, Sb t] ⟨box, nb, tok, nt⟩ (QW k (s ++ lineR ind t) (.tup []) o box nb tok nt) := by
  have hr := rep_c ind (by omega)
  have hp := padR_size ind
  have hlz := lineR_size ind t
  have hw := fun nb' box' tok' nt' h1 h2 => writeS_c WrT liesW k nb' box' tok' nt' x y o s (lineR ind t) hs h1 h2 (by omega) (by omega)
  have el : padR ind ++ t ++ ⟨#[10]⟩ = lineR ind t := by rw [lineR, ByteArray.append_assoc]
  refine sB Tryz.func40 Tryz.ntmps40 ?_
  intro hbox htok
  simp only at hbox htok
  apply AL.start
  have kn := key_lt hbox hk
  refine sN ?_
  refine AL.splitL (by rfl) (by rfl) follows_Tryz (Nat.le_refl _) (by kernel_rfl) ?_
  simp
  refine Stop.of_d (hr _ _) ?_
  simp
  rw [el]
  have z1 : (⟨#[10]⟩ : ByteArray).size = 1 := rfl
  refine ⟨by omega, by omega, ?_⟩
  refine Stop.of_a (hw _ _ _ _ (by simp only; rw [lb_out kn]; exact hk) hl) ?_
  rintro v m ⟨rfl, t1, tok1, nt1, hf, rfl⟩
  simp [upd_lb_out kn]
  refine sE ?_
  refine ⟨by simp, (Fin.gen (vs := []) (av := .tup []) (tok' := tok1) (nt' := nt1) (by simp [resAs, resA]) (by rw [← upd_lb_out kn, hbox]) hf.le (Nat.le_refl _) (fun t ht => ⟨ht, .inl rfl⟩) (outG (by simp [lb_out kn, upd_same]; exact .buf trivial)) (by simp [packA])).mono fun v m hq => ?_⟩
  exact ⟨hq.1, t1, tok1, nt1, hf, by rw [hq.2]⟩
end Go.AM
namespace Go.AM
open Go Go.Proofs
theorem wst_ok {T : TypeId} {k : Nat} {s : ByteArray} {x y : AV} {o : Own} {p q : Nat → Prop} (h : Wst T k s x y o) (hp : p k) (hq : ∀ t, q t) : ∀ r ∈ [[x, y]], ∀ z ∈ r, OkIn p q z := by
  intro r hr z hz
  simp only [List.mem_singleton] at hr
  subst hr
  simp only [List.mem_cons, List.not_mem_nil, or_false] at hz
  rcases hz with rfl | rfl
  · rcases h.x with rfl | rfl
    · exact .here hp
    · exact .ptr hp
  · rcases h.y with ⟨_, rfl, _⟩ | ⟨t, _, rfl⟩
    · exact .osl fun t e => hq t
    · exact .buf (hq t)
theorem Wst.wrote {T : TypeId} {k : Nat} {s : ByteArray} {t : Nat} : Wst T k s (.ptr k 0 0) (bufA t s) (.tok t) := ⟨.inr rfl, .inr ⟨t, rfl, rfl⟩⟩
def WCal (f : FuncId) (c : Cm) (ind : Nat) (d : ByteArray) : Prop := ∀ (k nb : Nat) (box : Nat → Option (List (List AV))) (tok : Nat → Bool) (nt : Nat) (x y : AV) (o : Own) (s : ByteArray), Wst WrT k s x y o → box k = some [[x, y]] → o.liveP tok →
  s.size + d.size ≤ 1000000000 → ACalls Tryz.prog f [.ptr k 0 0, c.av, I ind] ⟨box, nb, tok, nt⟩ (QW k (s ++ d) (.tup []) o box nb tok nt)
structure AccW where
  i : Nat
  x : AV
  y : AV
  o : Own
  tok : Nat → Bool
  nt : Nat
structure WInv (D : Nat → ByteArray) (n k : Nat) (s : ByteArray) (o0 : Own) (tok0 : Nat → Bool) (nt0 : Nat) (a : AccW) : Prop where
  i : a.i ≤ n
  w : Wst WrT k (s ++ D a.i) a.x a.y a.o
  f : Fol o0 tok0 nt0 a.o a.tok a.nt
  e : 0 < a.i → a.x = .ptr k 0 0 ∧ ∃ t, a.o = .tok t
theorem WInv.of {D : Nat → ByteArray} {n k : Nat} {s : ByteArray} {o0 : Own} {tok0 : Nat → Bool} {nt0 i : Nat} {x y : AV} {o : Own} {tok : Nat → Bool} {nt : Nat} (h1 : i ≤ n) (h2 : Wst WrT k (s ++ D i) x y o) (h3 : Fol o0 tok0 nt0 o tok nt) (h4 : 0 < i → x = .ptr k 0 0 ∧ ∃ t, o = .tok t) : WInv D n k s o0 tok0 nt0 ⟨i, x, y, o, tok, nt⟩ := ⟨h1, h2, h3, h4⟩
def stBw (c : Cm) (ind : Nat) (ws : List ByteArray) (k nb : Nat) (box : Nat → Option (List (List AV))) (a : AccW) : AState :=
  ⟨tl [(11, .d (cms c.kids)), (12, I c.kids.length), (13, I a.i), (5, .ptr (nb + 5) 0 0), (0, .ptr k 0 0), (2, I ind), (3, .d (strs (ws.map (· ++ fOpen))))], lb nb (upd box k (some [[a.x, a.y]])) [(5, [c.row])], a.tok, a.nt⟩
set_option maxRecDepth 100000 in
theorem blocksW_c (c : Cm) (ind : Nat) (ws : List ByteArray) (hw1 : 1 ≤ ws.length) (hw2 : ws.length ≤ 3) (hws : ∀ w ∈ ws, w.size ≤ 20) (hi : ind ≤ 99) (hl : c.kids.length ≤ 1000000000)
    (ih : ∀ x ∈ c.kids, WCal 41 x (ind + 1) (fmC true (ind + 1) x)) (k nb : Nat) (box : Nat → Option (List (List AV))) (tok : Nat → Bool) (nt : Nat) (x y : AV) (o : Own) (s : ByteArray) (hs : Wst WrT k s x y o) (hk : box k = some [[x, y]]) (ho : o.liveP tok)
    (hz : s.size + (fmK ind ws 0 c.kids ++ lineR ind ⟨#[125]⟩).size ≤ 1000000000) :
    ACalls Tryz.prog 115 [.ptr k 0 0, c.av, I ind, .d (strs (ws.map (· ++ fOpen)))] ⟨box, nb, tok, nt⟩ (QW k (s ++ (fmK ind ws 0 c.kids ++ lineR ind ⟨#[125]⟩)) (.tup []) o box nb tok nt) := by
  rw [ByteArray.size_append] at hz
  refine sB Tryz.func115 Tryz.ntmps115 ?_
  intro hbox htok
  simp only at hbox htok
  apply AL.start
  have kn := key_lt hbox hk
  try (simp)
  repeat (refine sR ?_; simp)
  refine sN ?_
  refine AL.loopT (stBw c ind ws k nb box) (WInv (fun i => fmK ind ws 0 (c.kids.take i)) c.kids.length k s o tok nt) (fun a => c.kids.length - a.i) ⟨0, x, y, o, tok, nt⟩ (WInv.of (Nat.zero_le _) (by simpa [fmK, bApp_empty] using hs) (Fol.refl ho) (fun h => absurd h (Nat.lt_irrefl 0)))
    (by
      simp only [stBw]
      rw [upd_keep hk]
      exact Weaks.mk' (Nat.le_refl _) (by simp [ToL, lk]; exact to_ptr (by rw [lb_out kn, hk]; simp)) (by simp [BoxL, lk, Cm.cells_eq]) (fun k rows _ h => .inl h)) ?_
  rintro ⟨i, x1, y1, o1, tok1, nt1⟩ S hinv hS
  obtain ⟨hi2, hw, hf, _⟩ := hinv
  simp only [stBw] at hS hi2 hw hf ⊢
  subst hS
  have hwi : IntKind.i64.wrap ((i : Int) + 1) = ((i + 1 : Nat) : Int) := by rw [wrap_in (by omega) (by omega)]; rfl
  have hwn := sW (i := ind) (by omega)
  have hwl : IntKind.i64.wrap (↑ws.length - 1) = (ws.length : Int) - 1 := wrap_in (by omega) (by omega)
  have hle := fmK_le ind ws c.kids i
  by_cases hlt : i < c.kids.length
  · obtain ⟨j, hj⟩ : ∃ j, j = min i (ws.length - 1) := ⟨_, rfl⟩
    have hj1 : min (i : Int) ((ws.length : Int) - 1) = (j : Int) := by omega
    have hj2 : j < ws.length := by omega
    have hj2' : (j : Int) < ws.length := by omega
    have hwd := wdAt_at hw1 hj hj2
    have ht2 := fmK_take ind ws hlt
    have ht3 := fmK_le ind ws c.kids (i + 1)
    rw [ht2, ByteArray.size_append, ByteArray.size_append] at ht3
    have ihx := ih _ (List.getElem_mem hlt)
    try (simp [hlt])
    repeat (refine sR ?_; simp [hlt])
    refine sC ?_
    simp
    try (simp [hlt, Cm.cells_eq])
    repeat (refine sR ?_; simp [hlt, Cm.cells_eq])
    generalize c.kids[i] = q at *
    try (simp [hwl, hj1, hj2, hj2', hwd])
    repeat (refine sR ?_; simp [hwl, hj1, hj2, hj2', hwd])
    refine Stop.of_a (line_c k _ _ _ _ x1 y1 o1 _ hw (by simp only; rw [lb_out kn, upd_same]) hf.live ind (by omega) _ (by rw [ByteArray.size_append]; omega)) ?_
    rintro v m ⟨rfl, t2, tok2, nt2, hf2, rfl⟩
    try (simp [upd_lb_out kn, upd_upd, hwn])
    repeat (refine sR ?_; simp [upd_lb_out kn, upd_upd, hwn])
    refine Stop.of_a (ihx k _ _ _ _ _ _ _ _ Wst.wrote (by simp only; rw [lb_out kn, upd_same]) hf2.live (by rw [ByteArray.size_append, ByteArray.size_append]; omega)) ?_
    rintro v m ⟨rfl, t3, tok3, nt3, hf3, rfl⟩
    try (simp [upd_lb_out kn, upd_upd, hwi])
    repeat (refine sR ?_; simp [upd_lb_out kn, upd_upd, hwi])
    refine sE ?_
    have hff := hf.trans (hf2.trans hf3)
    refine ⟨⟨i + 1, .ptr k 0 0, bufA t3 _, .tok t3, tok3, nt3⟩, WInv.of hlt (by simp only [ht2, ← ByteArray.append_assoc]; exact Wst.wrote) hff (fun _ => ⟨rfl, _, rfl⟩), by simp only; omega, ?_⟩
    simp only [stBw]
    exact Weaks.mk' hff.le (by simp [ToL, lk]; exact to_ptr (by rw [lb_out kn, upd_same]; simp)) (by simp [BoxL, lk, Cm.cells_eq]) (outG (wst_ok (T := WrT) Wst.wrote (by rw [lb_out kn, upd_same]; simp) fun _ => trivial))
  · have : i = c.kids.length := by omega
    subst this
    rw [List.take_length] at hw hle
    try (simp [hlt])
    repeat (refine sR ?_; simp [hlt])
    refine sC ?_
    simp
    refine sX ?_
    simp only [AU, ↓reduceIte]
    try (simp)
    repeat (refine sR ?_; simp)
    refine Stop.of_a (line_c k _ _ _ _ x1 y1 o1 _ hw (by simp only; rw [lb_out kn, upd_same]) hf.live ind (by omega) _ (by rw [ByteArray.size_append]; omega)) ?_
    rintro v m ⟨rfl, t2, tok2, nt2, hf2, rfl⟩
    simp [upd_lb_out kn, upd_upd]
    refine sE ?_
    have hff := hf.trans hf2
    refine ⟨by simp, (Fin.gen (vs := []) (av := .tup []) (tok' := tok2) (nt' := nt2) (by simp [resAs, resA]) (by rw [← upd_lb_out kn, hbox]) hff.le (Nat.le_refl _) (fun t ht => ⟨ht, .inl rfl⟩) (outG (by simp [lb_out kn, upd_same]; exact .buf trivial)) (by simp [packA])).mono fun v m hq => ?_⟩
    exact ⟨hq.1, t2, tok2, nt2, hff, by rw [hq.2]; simp only [ByteArray.append_assoc]⟩
end Go.AM
namespace Go.AM
open Go Go.Proofs
theorem itoa_c (n : Int) (h0 : 0 ≤ n) (h1 : n < 10) (tok : Nat → Bool) (nt : Nat) : DCall Tryz.prog 116 [I n] tok nt (Sb (digR n)) tok nt := by
  intro box nb
  obtain ⟨i, rfl⟩ : ∃ i : Nat, n = i := ⟨n.toNat, by omega⟩
  refine ⟨Enters.mk Tryz.func116 rfl (by kernel_rfl), fun G w vals hm hr => ?_⟩
  obtain ⟨hlen, hrv⟩ := hr
  match vals, hlen with
  | [v], _ =>
    have h0 := hrv 0 (by simp) (by simp)
    simp only [List.getElem_cons_zero] at h0
    cases h0 with | d h0 =>
    cases h0
    refine (Tryz.strconv_Itoa_small i (by omega) w).mono ?_
    rintro e w' ⟨rfl, rfl⟩
    refine ⟨_, _, _, G, rfl, ⟨rfl, rfl⟩, rfl, hm, ?_, Le.refl _ _, fun k hk => ⟨hk, rfl⟩⟩
    have : (⟨(Lib.decDigits i).toArray⟩ : ByteArray) = digR (i : Int) := by
      have hi : i < 10 := by omega
      have h : Lib.decDigits i = [UInt8.ofNat (48 + i)] := by rw [Lib.decDigits, dif_pos hi]
      rw [h]
      have : ∀ i, i < 10 → (⟨[UInt8.ofNat (48 + i)].toArray⟩ : ByteArray) = digR (i : Int) := by decide
      exact this i hi
    rw [this]
    exact .d (.raw rfl)
def stBx (c : Cm) (ind k nb : Nat) (box : Nat → Option (List (List AV))) (a : AccW) : AState :=
  ⟨tl [(12, .d (cms c.kids)), (13, I c.kids.length), (14, I a.i), (4, .ptr (nb + 4) 0 0), (0, .ptr k 0 0), (2, I ind)], lb nb (upd box k (some [[a.x, a.y]])) [(4, [c.row])], a.tok, a.nt⟩
set_option maxRecDepth 100000 in
theorem wCmd_c : ∀ (n : Nat) (c : Cm), c.size < n → c.Fm → c.size ≤ 100000 → ∀ (ind : Nat), ind + c.depth ≤ 99 →
    (c.kind ≠ 2 → WCal 77 c ind (fmC false ind c)) ∧ WCal 41 c ind (fmC true ind c)
  | 0, c, hn, _, _, _, _ => absurd hn (Nat.not_lt_zero _)
  | n + 1, c, hn, hf, hsz, ind, hd => by
    have ih := fun x (hx : x ∈ c.kids) => wCmd_c n x (by have := Cm.kid_size hx; omega) (hf.kid x hx) (by have := Cm.kid_size hx; omega)
    have hdk : ∀ x ∈ c.kids, ind + 1 + x.depth ≤ 99 := fun x hx => by have := Cm.kid_depth hx; omega
    have hlen : c.kids.length ≤ 1000000000 := by have := Cm.len_le c.kids; have := c.size_eq; omega
    have hnm := hf.name
    have hL : c.kind ≠ 2 → WCal 77 c ind (fmC false ind c) := by
      intro hk2 k nb box tok nt x y o s hs hk ho hz
      have hR := fmC_eq false ind c
      rw [if_neg (by simp)] at hR
      have hbl := fun ws h1 h2 h3 => blocksW_c c ind ws h1 h2 h3 (by have := c.depth_eq; omega) hlen fun x hx => (ih x hx (ind + 1) (hdk x hx)).2
      have hwz : ∀ ws, wdsR c.kind c.num = ws → ∀ w ∈ ws, w.size ≤ 20 := fun ws h => h ▸ wdsR_size _ _
      have hok := hf.okB
      by_cases e1 : c.kind = 1
      · rw [if_pos e1] at hR
        rw [hR] at hz ⊢
        have eA : (⟨#[97, 112, 112, 108, 121, 32]⟩ : ByteArray) ++ c.name ++ ⟨#[32, 59]⟩ = fApply ++ (c.name ++ fSemi) := ByteArray.append_assoc
        refine sB Tryz.func77 Tryz.ntmps77 ?_
        intro hbox htok
        simp only at hbox htok
        apply AL.start
        have kn := key_lt hbox hk
        try (simp [e1])
        repeat (first | (refine sR ?_; simp [e1]) | (refine sC ?_; simp [e1]) | (refine sX ?_; simp only [AU, ↓reduceIte]))
        refine ⟨by (simp only [bsz, ByteArray.size_append, List.size_toArray, List.length_cons, List.length_nil]; omega), by (simp only [bsz, ByteArray.size_append, List.size_toArray, List.length_cons, List.length_nil]; omega), ?_⟩
        rw [eA]
        refine Stop.of_a (line_c k _ _ _ _ x y o _ hs (by simp only; rw [lb_out kn]; exact hk) ho ind (by omega) _ hz) ?_
        rintro v m ⟨rfl, t2, tok2, nt2, hf2, rfl⟩
        try (simp [upd_lb_out kn])
        repeat (first | (refine sR ?_; simp [upd_lb_out kn]) | (refine sC ?_; simp [upd_lb_out kn]) | (refine sX ?_; simp only [AU, ↓reduceIte]))
        refine sE ?_
        refine ⟨by simp, (Fin.gen (vs := []) (av := .tup []) (tok' := tok2) (nt' := nt2) (by simp [resAs, resA]) (by rw [← upd_lb_out kn, hbox]) hf2.le (Nat.le_refl _) (fun t ht => ⟨ht, .inl rfl⟩) (outG (by simp [lb_out kn, upd_same]; exact .buf trivial)) (by simp [packA])).mono fun v m hq => ?_⟩
        exact ⟨hq.1, t2, tok2, nt2, hf2, hq.2.trans rfl⟩
      rw [if_neg e1] at hR
      have b1 : (c.kind == 1) = false := by simp [e1]
      by_cases e10 : c.kind = 10
      · rw [if_pos e10] at hR
        rw [hR] at hz ⊢
        have eA : (⟨#[99, 97, 108, 108, 32]⟩ : ByteArray) ++ c.name ++ ⟨#[32, 59]⟩ = fCall ++ (c.name ++ fSemi) := ByteArray.append_assoc
        refine sB Tryz.func77 Tryz.ntmps77 ?_
        intro hbox htok
        simp only at hbox htok
        apply AL.start
        have kn := key_lt hbox hk
        try (simp [e1, b1, e10])
        repeat (first | (refine sR ?_; simp [e1, b1, e10]) | (refine sC ?_; simp [e1, b1, e10]) | (refine sX ?_; simp only [AU, ↓reduceIte]))
        refine ⟨by (simp only [bsz, ByteArray.size_append, List.size_toArray, List.length_cons, List.length_nil]; omega), by (simp only [bsz, ByteArray.size_append, List.size_toArray, List.length_cons, List.length_nil]; omega), ?_⟩
        rw [eA]
        refine Stop.of_a (line_c k _ _ _ _ x y o _ hs (by simp only; rw [lb_out kn]; exact hk) ho ind (by omega) _ hz) ?_
        rintro v m ⟨rfl, t2, tok2, nt2, hf2, rfl⟩
        try (simp [upd_lb_out kn])
        repeat (first | (refine sR ?_; simp [upd_lb_out kn]) | (refine sC ?_; simp [upd_lb_out kn]) | (refine sX ?_; simp only [AU, ↓reduceIte]))
        refine sE ?_
        refine ⟨by simp, (Fin.gen (vs := []) (av := .tup []) (tok' := tok2) (nt' := nt2) (by simp [resAs, resA]) (by rw [← upd_lb_out kn, hbox]) hf2.le (Nat.le_refl _) (fun t ht => ⟨ht, .inl rfl⟩) (outG (by simp [lb_out kn, upd_same]; exact .buf trivial)) (by simp [packA])).mono fun v m hq => ?_⟩
        exact ⟨hq.1, t2, tok2, nt2, hf2, hq.2.trans rfl⟩
      rw [if_neg e10] at hR
      have b10 : (c.kind == 10) = false := by simp [e10]
      by_cases e8 : c.kind = 8
      · rw [if_pos e8] at hR
        rw [hR] at hz ⊢
        refine sB Tryz.func77 Tryz.ntmps77 ?_
        intro hbox htok
        simp only at hbox htok
        apply AL.start
        have kn := key_lt hbox hk
        try (simp [e1, b1, e10, b10, e8])
        repeat (first | (refine sR ?_; simp [e1, b1, e10, b10, e8]) | (refine sC ?_; simp [e1, b1, e10, b10, e8]) | (refine sX ?_; simp only [AU, ↓reduceIte]))
        refine Stop.of_a (line_c k _ _ _ _ x y o _ hs (by simp only; rw [lb_out kn]; exact hk) ho ind (by omega) _ hz) ?_
        rintro v m ⟨rfl, t2, tok2, nt2, hf2, rfl⟩
        try (simp [upd_lb_out kn])
        repeat (first | (refine sR ?_; simp [upd_lb_out kn]) | (refine sC ?_; simp [upd_lb_out kn]) | (refine sX ?_; simp only [AU, ↓reduceIte]))
        refine sE ?_
        refine ⟨by simp, (Fin.gen (vs := []) (av := .tup []) (tok' := tok2) (nt' := nt2) (by simp [resAs, resA]) (by rw [← upd_lb_out kn, hbox]) hf2.le (Nat.le_refl _) (fun t ht => ⟨ht, .inl rfl⟩) (outG (by simp [lb_out kn, upd_same]; exact .buf trivial)) (by simp [packA])).mono fun v m hq => ?_⟩
        exact ⟨hq.1, t2, tok2, nt2, hf2, hq.2.trans rfl⟩
      rw [if_neg e8] at hR
      have b8 : (c.kind == 8) = false := by simp [e8]
      by_cases e9 : c.kind = 9
      · rw [if_pos e9] at hR
        rw [hR] at hz ⊢
        refine sB Tryz.func77 Tryz.ntmps77 ?_
        intro hbox htok
        simp only at hbox htok
        apply AL.start
        have kn := key_lt hbox hk
        try (simp [e1, b1, e10, b10, e8, b8, e9])
        repeat (first | (refine sR ?_; simp [e1, b1, e10, b10, e8, b8, e9]) | (refine sC ?_; simp [e1, b1, e10, b10, e8, b8, e9]) | (refine sX ?_; simp only [AU, ↓reduceIte]))
        refine Stop.of_a (line_c k _ _ _ _ x y o _ hs (by simp only; rw [lb_out kn]; exact hk) ho ind (by omega) _ hz) ?_
        rintro v m ⟨rfl, t2, tok2, nt2, hf2, rfl⟩
        try (simp [upd_lb_out kn])
        repeat (first | (refine sR ?_; simp [upd_lb_out kn]) | (refine sC ?_; simp [upd_lb_out kn]) | (refine sX ?_; simp only [AU, ↓reduceIte]))
        refine sE ?_
        refine ⟨by simp, (Fin.gen (vs := []) (av := .tup []) (tok' := tok2) (nt' := nt2) (by simp [resAs, resA]) (by rw [← upd_lb_out kn, hbox]) hf2.le (Nat.le_refl _) (fun t ht => ⟨ht, .inl rfl⟩) (outG (by simp [lb_out kn, upd_same]; exact .buf trivial)) (by simp [packA])).mono fun v m hq => ?_⟩
        exact ⟨hq.1, t2, tok2, nt2, hf2, hq.2.trans rfl⟩
      rw [if_neg e9] at hR
      have b9 : (c.kind == 9) = false := by simp [e9]
      rw [hR] at hz ⊢
      by_cases e5 : c.kind = 5
      · have hws : wdsR c.kind c.num = kwLoop := by rw [wdsR, if_neg (by omega), if_neg (by omega), if_pos e5]
        have t5 : (c.kind == 5) = true := by simp [e5]
        have hwl : (kwLoop.map (· ++ fOpen) : List ByteArray) = [⟨#[108, 111, 111, 112, 32, 123]⟩] := by decide
        have hb := hbl kwLoop (by decide) (by decide) (hwz _ hws)
        rw [hwl] at hb
        rw [hws] at hz ⊢
        refine sB Tryz.func77 Tryz.ntmps77 ?_
        intro hbox htok
        simp only at hbox htok
        apply AL.start
        have kn := key_lt hbox hk
        try (simp [e1, b1, e10, b10, e8, b8, e9, b9, t5])
        repeat (first | (refine sR ?_; simp [e1, b1, e10, b10, e8, b8, e9, b9, t5]) | (refine sC ?_; simp [e1, b1, e10, b10, e8, b8, e9, b9, t5]) | (refine sX ?_; simp only [AU, ↓reduceIte]))
        refine Stop.data ?_
        refine Stop.of_a (hb k _ _ _ _ x y o _ hs (by simp only; rw [lb_out kn]; exact hk) ho hz) ?_
        rintro v m ⟨rfl, t2, tok2, nt2, hf2, rfl⟩
        try (simp [upd_lb_out kn])
        repeat (first | (refine sR ?_; simp [upd_lb_out kn]) | (refine sC ?_; simp [upd_lb_out kn]) | (refine sX ?_; simp only [AU, ↓reduceIte]))
        refine sE ?_
        refine ⟨by simp, (Fin.gen (vs := []) (av := .tup []) (tok' := tok2) (nt' := nt2) (by simp [resAs, resA]) (by rw [← upd_lb_out kn, hbox]) hf2.le (Nat.le_refl _) (fun t ht => ⟨ht, .inl rfl⟩) (outG (by simp [lb_out kn, upd_same]; exact .buf trivial)) (by simp [packA])).mono fun v m hq => ?_⟩
        exact ⟨hq.1, t2, tok2, nt2, hf2, hq.2.trans rfl⟩
      have b5 : (c.kind == 5) = false := by simp [e5]
      by_cases e7 : c.kind = 7
      · have hws : wdsR c.kind c.num = kwTry := by rw [wdsR, if_neg (by omega), if_neg (by omega), if_neg (by omega), if_neg (by omega)]
        have t7 : (c.kind == 7) = true := by simp [e7]
        have hwl : (kwTry.map (· ++ fOpen) : List ByteArray) = [⟨#[116, 114, 121, 32, 123]⟩] := by decide
        have hb := hbl kwTry (by decide) (by decide) (hwz _ hws)
        rw [hwl] at hb
        rw [hws] at hz ⊢
        refine sB Tryz.func77 Tryz.ntmps77 ?_
        intro hbox htok
        simp only at hbox htok
        apply AL.start
        have kn := key_lt hbox hk
        try (simp [e1, b1, e10, b10, e8, b8, e9, b9, e5, b5, t7])
        repeat (first | (refine sR ?_; simp [e1, b1, e10, b10, e8, b8, e9, b9, e5, b5, t7]) | (refine sC ?_; simp [e1, b1, e10, b10, e8, b8, e9, b9, e5, b5, t7]) | (refine sX ?_; simp only [AU, ↓reduceIte]))
        refine Stop.data ?_
        refine Stop.of_a (hb k _ _ _ _ x y o _ hs (by simp only; rw [lb_out kn]; exact hk) ho hz) ?_
        rintro v m ⟨rfl, t2, tok2, nt2, hf2, rfl⟩
        try (simp [upd_lb_out kn])
        repeat (first | (refine sR ?_; simp [upd_lb_out kn]) | (refine sC ?_; simp [upd_lb_out kn]) | (refine sX ?_; simp only [AU, ↓reduceIte]))
        refine sE ?_
        refine ⟨by simp, (Fin.gen (vs := []) (av := .tup []) (tok' := tok2) (nt' := nt2) (by simp [resAs, resA]) (by rw [← upd_lb_out kn, hbox]) hf2.le (Nat.le_refl _) (fun t ht => ⟨ht, .inl rfl⟩) (outG (by simp [lb_out kn, upd_same]; exact .buf trivial)) (by simp [packA])).mono fun v m hq => ?_⟩
        exact ⟨hq.1, t2, tok2, nt2, hf2, hq.2.trans rfl⟩
      have b7 : (c.kind == 7) = false := by simp [e7]
      by_cases e6 : c.kind = 6
      · have hws : wdsR c.kind c.num = [fRep ++ digR c.num] := by rw [wdsR, if_neg (by omega), if_neg (by omega), if_neg (by omega), if_pos e6]
        have hit := itoa_c c.num (by have := hf.num e6; omega) (by have := hf.num e6; omega)
        have hdz := digR_size c.num
        have hb := hbl [fRep ++ digR c.num] (Nat.le_refl 1) (by show 1 ≤ 3; omega) (hwz _ hws)
        have eR : (⟨#[114, 101, 112, 101, 97, 116, 32]⟩ : ByteArray) ++ digR c.num ++ ⟨#[32, 123]⟩ = fRep ++ digR c.num ++ fOpen := rfl
        simp only [List.map_cons, List.map_nil] at hb
        rw [hws] at hz ⊢
        refine sB Tryz.func77 Tryz.ntmps77 ?_
        intro hbox htok
        simp only at hbox htok
        apply AL.start
        have kn := key_lt hbox hk
        have t6 : (c.kind == 6) = true := by simp [e6]
        try (simp [e1, b1, e10, b10, e8, b8, e9, b9, e5, b5, e7, b7])
        repeat (first | (refine sR ?_; simp [e1, b1, e10, b10, e8, b8, e9, b9, e5, b5, e7, b7]) | (refine sC ?_; simp [e1, b1, e10, b10, e8, b8, e9, b9, e5, b5, e7, b7]) | (refine sX ?_; simp only [AU, ↓reduceIte]))
        refine ⟨fun _ => ?_, fun h => absurd e6 h⟩
        refine sN ?_
        refine AL.splitL (by rfl) (by rfl) follows_Tryz (Nat.le_refl _) (by kernel_rfl) ?_
        simp
        refine Stop.of_d (hit _ _) ?_
        simp
        refine ⟨by (simp only [bsz, ByteArray.size_append, List.size_toArray, List.length_cons, List.length_nil]; omega), by (simp only [bsz, ByteArray.size_append, List.size_toArray, List.length_cons, List.length_nil]; omega), ?_⟩
        rw [eR]
        refine Stop.data ?_
        refine Stop.of_a (hb k _ _ _ _ x y o _ hs (by simp only; rw [lb_out kn]; exact hk) ho hz) ?_
        rintro v m ⟨rfl, t2, tok2, nt2, hf2, rfl⟩
        simp only [FOps_nil]
        try (simp [upd_lb_out kn])
        repeat (first | (refine sR ?_; simp [upd_lb_out kn]) | (refine sC ?_; simp [upd_lb_out kn]) | (refine sX ?_; simp only [AU, ↓reduceIte]))
        refine sE ?_
        refine ⟨by simp, (Fin.gen (vs := []) (av := .tup []) (tok' := tok2) (nt' := nt2) (by simp [resAs, resA]) (by rw [← upd_lb_out kn, hbox]) hf2.le (Nat.le_refl _) (fun t ht => ⟨ht, .inl rfl⟩) (outG (by simp [lb_out kn, upd_same]; exact .buf trivial)) (by simp [packA])).mono fun v m hq => ?_⟩
        exact ⟨hq.1, t2, tok2, nt2, hf2, hq.2.trans rfl⟩
      have b6 : (c.kind == 6) = false := by simp [e6]
      by_cases e4 : c.kind = 4
      · have hws : wdsR c.kind c.num = kwIf := by rw [wdsR, if_neg (by omega), if_pos e4]
        have t4 : (c.kind == 4) = true := by simp [e4]
        have hwl : (kwIf.map (· ++ fOpen) : List ByteArray) = [⟨#[105, 102, 32, 123]⟩, ⟨#[125, 32, 116, 104, 101, 110, 32, 123]⟩, ⟨#[125, 32, 101, 108, 115, 101, 32, 123]⟩] := by decide
        have hb := hbl kwIf (by decide) (by decide) (hwz _ hws)
        rw [hwl] at hb
        rw [hws] at hz ⊢
        refine sB Tryz.func77 Tryz.ntmps77 ?_
        intro hbox htok
        simp only at hbox htok
        apply AL.start
        have kn := key_lt hbox hk
        try (simp [e1, b1, e10, b10, e8, b8, e9, b9, e5, b5, e7, b7, e6, b6, t4])
        repeat (first | (refine sR ?_; simp [e1, b1, e10, b10, e8, b8, e9, b9, e5, b5, e7, b7, e6, b6, t4]) | (refine sC ?_; simp [e1, b1, e10, b10, e8, b8, e9, b9, e5, b5, e7, b7, e6, b6, t4]) | (refine sX ?_; simp only [AU, ↓reduceIte]))
        refine ⟨rfl, ?_⟩
        refine Stop.data ?_
        refine Stop.of_a (hb k _ _ _ _ x y o _ hs (by simp only; rw [lb_out kn]; exact hk) ho hz) ?_
        rintro v m ⟨rfl, t2, tok2, nt2, hf2, rfl⟩
        try (simp [upd_lb_out kn])
        repeat (first | (refine sR ?_; simp [upd_lb_out kn]) | (refine sC ?_; simp [upd_lb_out kn]) | (refine sX ?_; simp only [AU, ↓reduceIte]))
        refine sE ?_
        refine ⟨by simp, (Fin.gen (vs := []) (av := .tup []) (tok' := tok2) (nt' := nt2) (by simp [resAs, resA]) (by rw [← upd_lb_out kn, hbox]) hf2.le (Nat.le_refl _) (fun t ht => ⟨ht, .inl rfl⟩) (outG (by simp [lb_out kn, upd_same]; exact .buf trivial)) (by simp [packA])).mono fun v m hq => ?_⟩
        exact ⟨hq.1, t2, tok2, nt2, hf2, hq.2.trans rfl⟩
      have b4 : (c.kind == 4) = false := by simp [e4]
      by_cases e3 : c.kind = 3
      · have hws : wdsR c.kind c.num = kwCho := by rw [wdsR, if_pos e3]
        have t3 : (c.kind == 3) = true := by simp [e3]
        have hwl : (kwCho.map (· ++ fOpen) : List ByteArray) = [⟨#[99, 104, 111, 111, 115, 101, 32, 123]⟩, ⟨#[125, 32, 111, 114, 32, 123]⟩] := by decide
        have hb := hbl kwCho (by decide) (by decide) (hwz _ hws)
        rw [hwl] at hb
        rw [hws] at hz ⊢
        refine sB Tryz.func77 Tryz.ntmps77 ?_
        intro hbox htok
        simp only at hbox htok
        apply AL.start
        have kn := key_lt hbox hk
        try (simp [e1, b1, e10, b10, e8, b8, e9, b9, e5, b5, e7, b7, e6, b6, e4, b4, t3])
        repeat (first | (refine sR ?_; simp [e1, b1, e10, b10, e8, b8, e9, b9, e5, b5, e7, b7, e6, b6, e4, b4, t3]) | (refine sC ?_; simp [e1, b1, e10, b10, e8, b8, e9, b9, e5, b5, e7, b7, e6, b6, e4, b4, t3]) | (refine sX ?_; simp only [AU, ↓reduceIte]))
        refine ⟨rfl, ?_⟩
        refine Stop.data ?_
        refine Stop.of_a (hb k _ _ _ _ x y o _ hs (by simp only; rw [lb_out kn]; exact hk) ho hz) ?_
        rintro v m ⟨rfl, t2, tok2, nt2, hf2, rfl⟩
        try (simp [upd_lb_out kn])
        repeat (first | (refine sR ?_; simp [upd_lb_out kn]) | (refine sC ?_; simp [upd_lb_out kn]) | (refine sX ?_; simp only [AU, ↓reduceIte]))
        refine sE ?_
        refine ⟨by simp, (Fin.gen (vs := []) (av := .tup []) (tok' := tok2) (nt' := nt2) (by simp [resAs, resA]) (by rw [← upd_lb_out kn, hbox]) hf2.le (Nat.le_refl _) (fun t ht => ⟨ht, .inl rfl⟩) (outG (by simp [lb_out kn, upd_same]; exact .buf trivial)) (by simp [packA])).mono fun v m hq => ?_⟩
        exact ⟨hq.1, t2, tok2, nt2, hf2, hq.2.trans rfl⟩
      have b3 : (c.kind == 3) = false := by simp [e3]
      exfalso
      unfold okB at hok
      simp [e1, e10, e8, e9, e5, e7, e6, e4, e3, hk2] at hok
    refine ⟨hL, ?_⟩
    intro k nb box tok nt x y o s hs hk ho hz
    have hok := hf.okB
    have hR := fmC_eq true ind c
    by_cases e2 : c.kind = 2
    · rw [if_pos (by simp [e2])] at hR
      rw [hR] at hz ⊢
      have t2 : (c.kind == 2) = true := by simp [e2]
      have hk2 : ∀ q ∈ c.kids, q.kind ≠ 2 := by
        intro q hq e
        have h1 := hok
        unfold okB at h1
        simp only [e2, if_true, Bool.and_eq_true, decide_eq_true_eq, Bool.not_eq_true', List.any_eq_false] at h1
        exact h1.1.1.2 q hq (by simp [e])
      refine sB Tryz.func41 Tryz.ntmps41 ?_
      intro hbox htok
      simp only at hbox htok
      apply AL.start
      have kn := key_lt hbox hk
      try (simp [t2])
      repeat (first | (refine sR ?_; simp [t2]) | (refine sC ?_; simp [t2]) | (refine sX ?_; simp only [AU, ↓reduceIte]))
      refine sN ?_
      refine AL.loopT (stBx c ind k nb box) (WInv (fun i => fmS ind (c.kids.take i)) c.kids.length k s o tok nt) (fun a => c.kids.length - a.i) ⟨0, x, y, o, tok, nt⟩ (WInv.of (Nat.zero_le _) (by simpa [fmS, bApp_empty] using hs) (Fol.refl ho) (fun h => absurd h (Nat.lt_irrefl 0)))
        (by
          simp only [stBx]
          rw [upd_keep hk]
          exact Weaks.mk' (Nat.le_refl _) (by simp [ToL, lk]; exact to_ptr (by rw [lb_out kn, hk]; simp)) (by simp [BoxL, lk, Cm.cells_eq]) (fun k rows _ h => .inl h)) ?_
      rintro ⟨i, x1, y1, o1, tok1, nt1⟩ S hinv hS
      obtain ⟨hi2, hw, hf, hxe⟩ := hinv
      simp only [stBx] at hS hi2 hw hf hxe ⊢
      subst hS
      have hwi : IntKind.i64.wrap ((i : Int) + 1) = ((i + 1 : Nat) : Int) := by rw [wrap_in (by omega) (by omega)]; rfl
      have hle := fmS_le ind c.kids i
      by_cases hlt : i < c.kids.length
      · have ht2 := fmS_take ind hlt
        have ht3 := fmS_le ind c.kids (i + 1)
        rw [ht2, ByteArray.size_append] at ht3
        have ihx := (ih _ (List.getElem_mem hlt) ind (by have := hdk _ (List.getElem_mem hlt); omega)).1 (hk2 _ (List.getElem_mem hlt))
        try (simp [hlt])
        repeat (refine sR ?_; simp [hlt])
        refine sC ?_
        simp
        try (simp [hlt, Cm.cells_eq])
        repeat (refine sR ?_; simp [hlt, Cm.cells_eq])
        generalize c.kids[i] = q at *
        try (simp)
        repeat (refine sR ?_; simp)
        refine Stop.of_a (ihx k _ _ _ _ x1 y1 o1 _ hw (by simp only; rw [lb_out kn, upd_same]) hf.live (by rw [ByteArray.size_append]; omega)) ?_
        rintro v m ⟨rfl, t3, tok3, nt3, hf3, rfl⟩
        try (simp [upd_lb_out kn, upd_upd, hwi])
        repeat (refine sR ?_; simp [upd_lb_out kn, upd_upd, hwi])
        refine sE ?_
        have hff := hf.trans hf3
        refine ⟨⟨i + 1, .ptr k 0 0, bufA t3 _, .tok t3, tok3, nt3⟩, WInv.of hlt (by simp only [ht2, ← ByteArray.append_assoc]; exact Wst.wrote) hff (fun _ => ⟨rfl, _, rfl⟩), by simp only; omega, ?_⟩
        simp only [stBx]
        exact Weaks.mk' hff.le (by simp [ToL, lk]; exact to_ptr (by rw [lb_out kn, upd_same]; simp)) (by simp [BoxL, lk, Cm.cells_eq]) (outG (wst_ok (T := WrT) Wst.wrote (by rw [lb_out kn, upd_same]; simp) fun _ => trivial))
      · have : i = c.kids.length := by omega
        subst this
        rw [List.take_length] at hw hle
        have hne : 0 < c.kids.length := by
          have h1 := hok
          unfold okB at h1
          simp only [e2, if_true, Bool.and_eq_true, decide_eq_true_eq] at h1
          have := h1.1.1.1
          omega
        obtain ⟨rfl, t3, rfl⟩ := hxe hne
        have hy : y1 = bufA t3 (s ++ fmS ind c.kids) := by
          rcases hw.y with ⟨_, _, e⟩ | ⟨t, e, e3⟩
          · cases e
          · cases e; exact e3
        subst hy
        try (simp [hlt])
        repeat (refine sR ?_; simp [hlt])
        refine sC ?_
        simp
        refine sX ?_
        simp only [AU, ↓reduceIte]
        try (simp)
        repeat (refine sR ?_; simp)
        refine sT ?_
        try simp only [AU]
        refine ⟨by simp, (Fin.gen (vs := []) (av := .tup []) (tok' := tok1) (nt' := nt1) (by simp [resAs, resA]) (by rw [← upd_lb_out kn, hbox]) hf.le (Nat.le_refl _) (fun t ht => ⟨ht, .inl rfl⟩) (outG (by simp [lb_out kn, upd_same]; exact .buf trivial)) (by simp [packA])).mono fun v m hq => ?_⟩
        exact ⟨hq.1, t3, tok1, nt1, hf, hq.2.trans rfl⟩
    · rw [if_neg (by simp [e2])] at hR
      have hR2 := fmC_eq false ind c
      rw [if_neg (by simp)] at hR2
      rw [← hR2] at hR
      rw [hR] at hz ⊢
      have b2 : (c.kind == 2) = false := by simp [e2]
      have hb := hL e2
      refine sB Tryz.func41 Tryz.ntmps41 ?_
      intro hbox htok
      simp only at hbox htok
      apply AL.start
      have kn := key_lt hbox hk
      try (simp [b2])
      repeat (first | (refine sR ?_; simp [b2]) | (refine sC ?_; simp [b2]) | (refine sX ?_; simp only [AU, ↓reduceIte]))
      refine Stop.of_a (hb k _ _ _ _ x y o _ hs (by simp only; rw [lb_out kn]; exact hk) ho hz) ?_
      rintro v m ⟨rfl, t2, tok2, nt2, hf2, rfl⟩
      try (simp [upd_lb_out kn])
      repeat (first | (refine sR ?_; simp [upd_lb_out kn]) | (refine sC ?_; simp [upd_lb_out kn]) | (refine sX ?_; simp only [AU, ↓reduceIte]))
      refine sE ?_
      refine ⟨by simp, (Fin.gen (vs := []) (av := .tup []) (tok' := tok2) (nt' := nt2) (by simp [resAs, resA]) (by rw [← upd_lb_out kn, hbox]) hf2.le (Nat.le_refl _) (fun t ht => ⟨ht, .inl rfl⟩) (outG (by simp [lb_out kn, upd_same]; exact .buf trivial)) (by simp [packA])).mono fun v m hq => ?_⟩
      exact ⟨hq.1, t2, tok2, nt2, hf2, hq.2.trans rfl⟩
end Go.AM
