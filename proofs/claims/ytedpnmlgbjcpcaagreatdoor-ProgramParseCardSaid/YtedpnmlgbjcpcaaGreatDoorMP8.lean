/-
  Parts of the proof, as merged from many texts: a machine over data, what the functions compute, plain laws.
-/
import Derived.Test.YtedpnmlgbjcpcaaGreatDoorMP7
set_option linter.unusedSimpArgs false
set_option linter.unusedVariables false
namespace Go.AM
open Go Go.Proofs
theorem itoa_c (n : Int) (h0 : 0 ≤ n) (h1 : n < 10) (tok : Nat → Bool) (nt : Nat) : DCall Tryz.prog 116 [I n] tok nt (Sb (digR n)) tok nt := by
  intro box nb
  obtain ⟨i, rfl⟩ : ∃ i : Nat, n = i := ⟨n.toNat, by omega⟩
  refine ⟨Enters.mk Tryz.func116 rfl (by kernel_rfl), fun G w vals hm hr => ?_⟩
  obtain ⟨hlen, hrv⟩ := hr
  match vals, hlen with
  | [v], _ =>
    have h0 := hrv 0 (by simp) (by simp)
    simp only [List.getElem_cons_zero] at h0
    cases h0 with | d h0 =>
    cases h0
    refine (Tryz.strconv_Itoa_small i (by omega) w).mono ?_
    rintro e w' ⟨rfl, rfl⟩
    refine ⟨_, _, _, G, rfl, ⟨rfl, rfl⟩, rfl, hm, ?_, Le.refl _ _, fun k hk => ⟨hk, rfl⟩⟩
    have : (⟨(Lib.decDigits i).toArray⟩ : ByteArray) = digR (i : Int) := by
      have hi : i < 10 := by omega
      have h : Lib.decDigits i = [UInt8.ofNat (48 + i)] := by rw [Lib.decDigits, dif_pos hi]
      rw [h]
      have : ∀ i, i < 10 → (⟨[UInt8.ofNat (48 + i)].toArray⟩ : ByteArray) = digR (i : Int) := by decide
      exact this i hi
    rw [this]
    exact .d (.raw rfl)
def stBx (c : Cm) (ind k nb : Nat) (box : Nat → Option (List (List AV))) (a : AccW) : AState :=
  ⟨tl [(12, .d (cms c.kids)), (13, I c.kids.length), (14, I a.i), (4, .ptr (nb + 4) 0 0), (0, .ptr k 0 0), (2, I ind)], lb nb (upd box k (some [[a.x, a.y]])) [(4, [c.row])], a.tok, a.nt⟩
set_option maxRecDepth 100000 in
theorem wCmd_c : ∀ (n : Nat) (c : Cm), c.size < n → c.Fm → c.size ≤ 100000 → ∀ (ind : Nat), ind + c.depth ≤ 99 →
    (c.kind ≠ 2 → WCal 77 c ind (fmC false ind c)) ∧ WCal 41 c ind (fmC true ind c)
  | 0, c, hn, _, _, _, _ => absurd hn (Nat.not_lt_zero _)
  | n + 1, c, hn, hf, hsz, ind, hd => by
    have ih := fun x (hx : x ∈ c.kids) => wCmd_c n x (by have := Cm.kid_size hx; omega) (hf.kid x hx) (by have := Cm.kid_size hx; omega)
    have hdk : ∀ x ∈ c.kids, ind + 1 + x.depth ≤ 99 := fun x hx => by have := Cm.kid_depth hx; omega
    have hlen : c.kids.length ≤ 1000000000 := by have := Cm.len_le c.kids; have := c.size_eq; omega
    have hnm := hf.name
    have hL : c.kind ≠ 2 → WCal 77 c ind (fmC false ind c) := by
      intro hk2 k nb box tok nt x y o s hs hk ho hz
      have hR := fmC_eq false ind c
      rw [if_neg (by simp)] at hR
      have hbl := fun ws h1 h2 h3 => blocksW_c c ind ws h1 h2 h3 (by have := c.depth_eq; omega) hlen fun x hx => (ih x hx (ind + 1) (hdk x hx)).2
      have hwz : ∀ ws, wdsR c.kind c.num = ws → ∀ w ∈ ws, w.size ≤ 20 := fun ws h => h ▸ wdsR_size _ _
      have hok := hf.okB
      by_cases e1 : c.kind = 1
      · rw [if_pos e1] at hR
        rw [hR] at hz ⊢
        have eA : (⟨#[97, 112, 112, 108, 121, 32]⟩ : ByteArray) ++ c.name ++ ⟨#[32, 59]⟩ = fApply ++ (c.name ++ fSemi) := ByteArray.append_assoc
        refine sB Tryz.func77 Tryz.ntmps77 ?_
        intro hbox htok
        simp only at hbox htok
        apply AL.start
        have kn := key_lt hbox hk
        try (simp [e1])
        repeat (first | (refine sR ?_; simp [e1]) | (refine sC ?_; simp [e1]) | (refine sX ?_; simp only [AU, ↓reduceIte]))
        refine ⟨by (simp only [bsz, ByteArray.size_append, List.size_toArray, List.length_cons, List.length_nil]; omega), by (simp only [bsz, ByteArray.size_append, List.size_toArray, List.length_cons, List.length_nil]; omega), ?_⟩
        rw [eA]
        refine Stop.of_a (line_c k _ _ _ _ x y o _ hs (by simp only; rw [lb_out kn]; exact hk) ho ind (by omega) _ hz) ?_
        rintro v m ⟨rfl, t2, tok2, nt2, hf2, rfl⟩
        try (simp [upd_lb_out kn])
        repeat (first | (refine sR ?_; simp [upd_lb_out kn]) | (refine sC ?_; simp [upd_lb_out kn]) | (refine sX ?_; simp only [AU, ↓reduceIte]))
        refine sE ?_
        refine ⟨by simp, (Fin.gen (vs := []) (av := .tup []) (tok' := tok2) (nt' := nt2) (by simp [resAs, resA]) (by rw [← upd_lb_out kn, hbox]) hf2.le (Nat.le_refl _) (fun t ht => ⟨ht, .inl rfl⟩) (outG (by simp [lb_out kn, upd_same]; exact .buf trivial)) (by simp [packA])).mono fun v m hq => ?_⟩
        exact ⟨hq.1, t2, tok2, nt2, hf2, hq.2.trans rfl⟩
      rw [if_neg e1] at hR
      have b1 : (c.kind == 1) = false := by simp [e1]
      by_cases e10 : c.kind = 10
      · rw [if_pos e10] at hR
        rw [hR] at hz ⊢
        have eA : (⟨#[99, 97, 108, 108, 32]⟩ : ByteArray) ++ c.name ++ ⟨#[32, 59]⟩ = fCall ++ (c.name ++ fSemi) := ByteArray.append_assoc
        refine sB Tryz.func77 Tryz.ntmps77 ?_
        intro hbox htok
        simp only at hbox htok
        apply AL.start
        have kn := key_lt hbox hk
        try (simp [e1, b1, e10])
        repeat (first | (refine sR ?_; simp [e1, b1, e10]) | (refine sC ?_; simp [e1, b1, e10]) | (refine sX ?_; simp only [AU, ↓reduceIte]))
        refine ⟨by (simp only [bsz, ByteArray.size_append, List.size_toArray, List.length_cons, List.length_nil]; omega), by (simp only [bsz, ByteArray.size_append, List.size_toArray, List.length_cons, List.length_nil]; omega), ?_⟩
        rw [eA]
        refine Stop.of_a (line_c k _ _ _ _ x y o _ hs (by simp only; rw [lb_out kn]; exact hk) ho ind (by omega) _ hz) ?_
        rintro v m ⟨rfl, t2, tok2, nt2, hf2, rfl⟩
        try (simp [upd_lb_out kn])
        repeat (first | (refine sR ?_; simp [upd_lb_out kn]) | (refine sC ?_; simp [upd_lb_out kn]) | (refine sX ?_; simp only [AU, ↓reduceIte]))
        refine sE ?_
        refine ⟨by simp, (Fin.gen (vs := []) (av := .tup []) (tok' := tok2) (nt' := nt2) (by simp [resAs, resA]) (by rw [← upd_lb_out kn, hbox]) hf2.le (Nat.le_refl _) (fun t ht => ⟨ht, .inl rfl⟩) (outG (by simp [lb_out kn, upd_same]; exact .buf trivial)) (by simp [packA])).mono fun v m hq => ?_⟩
        exact ⟨hq.1, t2, tok2, nt2, hf2, hq.2.trans rfl⟩
      rw [if_neg e10] at hR
      have b10 : (c.kind == 10) = false := by simp [e10]
      by_cases e8 : c.kind = 8
      · rw [if_pos e8] at hR
        rw [hR] at hz ⊢
        refine sB Tryz.func77 Tryz.ntmps77 ?_
        intro hbox htok
        simp only at hbox htok
        apply AL.start
        have kn := key_lt hbox hk
        try (simp [e1, b1, e10, b10, e8])
        repeat (first | (refine sR ?_; simp [e1, b1, e10, b10, e8]) | (refine sC ?_; simp [e1, b1, e10, b10, e8]) | (refine sX ?_; simp only [AU, ↓reduceIte]))
        refine Stop.of_a (line_c k _ _ _ _ x y o _ hs (by simp only; rw [lb_out kn]; exact hk) ho ind (by omega) _ hz) ?_
        rintro v m ⟨rfl, t2, tok2, nt2, hf2, rfl⟩
        try (simp [upd_lb_out kn])
        repeat (first | (refine sR ?_; simp [upd_lb_out kn]) | (refine sC ?_; simp [upd_lb_out kn]) | (refine sX ?_; simp only [AU, ↓reduceIte]))
        refine sE ?_
        refine ⟨by simp, (Fin.gen (vs := []) (av := .tup []) (tok' := tok2) (nt' := nt2) (by simp [resAs, resA]) (by rw [← upd_lb_out kn, hbox]) hf2.le (Nat.le_refl _) (fun t ht => ⟨ht, .inl rfl⟩) (outG (by simp [lb_out kn, upd_same]; exact .buf trivial)) (by simp [packA])).mono fun v m hq => ?_⟩
        exact ⟨hq.1, t2, tok2, nt2, hf2, hq.2.trans rfl⟩
      rw [if_neg e8] at hR
      have b8 : (c.kind == 8) = false := by simp [e8]
      by_cases e9 : c.kind = 9
      · rw [if_pos e9] at hR
        rw [hR] at hz ⊢
        refine sB Tryz.func77 Tryz.ntmps77 ?_
        intro hbox htok
        simp only at hbox htok
        apply AL.start
        have kn := key_lt hbox hk
        try (simp [e1, b1, e10, b10, e8, b8, e9])
        repeat (first | (refine sR ?_; simp [e1, b1, e10, b10, e8, b8, e9]) | (refine sC ?_; simp [e1, b1, e10, b10, e8, b8, e9]) | (refine sX ?_; simp only [AU, ↓reduceIte]))
        refine Stop.of_a (line_c k _ _ _ _ x y o _ hs (by simp only; rw [lb_out kn]; exact hk) ho ind (by omega) _ hz) ?_
        rintro v m ⟨rfl, t2, tok2, nt2, hf2, rfl⟩
        try (simp [upd_lb_out kn])
        repeat (first | (refine sR ?_; simp [upd_lb_out kn]) | (refine sC ?_; simp [upd_lb_out kn]) | (refine sX ?_; simp only [AU, ↓reduceIte]))
        refine sE ?_
        refine ⟨by simp, (Fin.gen (vs := []) (av := .tup []) (tok' := tok2) (nt' := nt2) (by simp [resAs, resA]) (by rw [← upd_lb_out kn, hbox]) hf2.le (Nat.le_refl _) (fun t ht => ⟨ht, .inl rfl⟩) (outG (by simp [lb_out kn, upd_same]; exact .buf trivial)) (by simp [packA])).mono fun v m hq => ?_⟩
        exact ⟨hq.1, t2, tok2, nt2, hf2, hq.2.trans rfl⟩
      rw [if_neg e9] at hR
      have b9 : (c.kind == 9) = false := by simp [e9]
      rw [hR] at hz ⊢
      by_cases e5 : c.kind = 5
      · have hws : wdsR c.kind c.num = kwLoop := by rw [wdsR, if_neg (by omega), if_neg (by omega), if_pos e5]
        have t5 : (c.kind == 5) = true := by simp [e5]
        have hwl : (kwLoop.map (· ++ fOpen) : List ByteArray) = [⟨#[108, 111, 111, 112, 32, 123]⟩] := by decide
        have hb := hbl kwLoop (by decide) (by decide) (hwz _ hws)
        rw [hwl] at hb
        rw [hws] at hz ⊢
        refine sB Tryz.func77 Tryz.ntmps77 ?_
        intro hbox htok
        simp only at hbox htok
        apply AL.start
        have kn := key_lt hbox hk
        try (simp [e1, b1, e10, b10, e8, b8, e9, b9, t5])
        repeat (first | (refine sR ?_; simp [e1, b1, e10, b10, e8, b8, e9, b9, t5]) | (refine sC ?_; simp [e1, b1, e10, b10, e8, b8, e9, b9, t5]) | (refine sX ?_; simp only [AU, ↓reduceIte]))
        refine Stop.data ?_
        refine Stop.of_a (hb k _ _ _ _ x y o _ hs (by simp only; rw [lb_out kn]; exact hk) ho hz) ?_
        rintro v m ⟨rfl, t2, tok2, nt2, hf2, rfl⟩
        try (simp [upd_lb_out kn])
        repeat (first | (refine sR ?_; simp [upd_lb_out kn]) | (refine sC ?_; simp [upd_lb_out kn]) | (refine sX ?_; simp only [AU, ↓reduceIte]))
        refine sE ?_
        refine ⟨by simp, (Fin.gen (vs := []) (av := .tup []) (tok' := tok2) (nt' := nt2) (by simp [resAs, resA]) (by rw [← upd_lb_out kn, hbox]) hf2.le (Nat.le_refl _) (fun t ht => ⟨ht, .inl rfl⟩) (outG (by simp [lb_out kn, upd_same]; exact .buf trivial)) (by simp [packA])).mono fun v m hq => ?_⟩
        exact ⟨hq.1, t2, tok2, nt2, hf2, hq.2.trans rfl⟩
      have b5 : (c.kind == 5) = false := by simp [e5]
      by_cases e7 : c.kind = 7
      · have hws : wdsR c.kind c.num = kwTry := by rw [wdsR, if_neg (by omega), if_neg (by omega), if_neg (by omega), if_neg (by omega)]
        have t7 : (c.kind == 7) = true := by simp [e7]
        have hwl : (kwTry.map (· ++ fOpen) : List ByteArray) = [⟨#[116, 114, 121, 32, 123]⟩] := by decide
        have hb := hbl kwTry (by decide) (by decide) (hwz _ hws)
        rw [hwl] at hb
        rw [hws] at hz ⊢
        refine sB Tryz.func77 Tryz.ntmps77 ?_
        intro hbox htok
        simp only at hbox htok
        apply AL.start
        have kn := key_lt hbox hk
        try (simp [e1, b1, e10, b10, e8, b8, e9, b9, e5, b5, t7])
        repeat (first | (refine sR ?_; simp [e1, b1, e10, b10, e8, b8, e9, b9, e5, b5, t7]) | (refine sC ?_; simp [e1, b1, e10, b10, e8, b8, e9, b9, e5, b5, t7]) | (refine sX ?_; simp only [AU, ↓reduceIte]))
        refine Stop.data ?_
        refine Stop.of_a (hb k _ _ _ _ x y o _ hs (by simp only; rw [lb_out kn]; exact hk) ho hz) ?_
        rintro v m ⟨rfl, t2, tok2, nt2, hf2, rfl⟩
        try (simp [upd_lb_out kn])
        repeat (first | (refine sR ?_; simp [upd_lb_out kn]) | (refine sC ?_; simp [upd_lb_out kn]) | (refine sX ?_; simp only [AU, ↓reduceIte]))
        refine sE ?_
        refine ⟨by simp, (Fin.gen (vs := []) (av := .tup []) (tok' := tok2) (nt' := nt2) (by simp [resAs, resA]) (by rw [← upd_lb_out kn, hbox]) hf2.le (Nat.le_refl _) (fun t ht => ⟨ht, .inl rfl⟩) (outG (by simp [lb_out kn, upd_same]; exact .buf trivial)) (by simp [packA])).mono fun v m hq => ?_⟩
        exact ⟨hq.1, t2, tok2, nt2, hf2, hq.2.trans rfl⟩
      have b7 : (c.kind == 7) = false := by simp [e7]
      by_cases e6 : c.kind = 6
      · have hws : wdsR c.kind c.num = [fRep ++ digR c.num] := by rw [wdsR, if_neg (by omega), if_neg (by omega), if_neg (by omega), if_pos e6]
        have hit := itoa_c c.num (by have := hf.num e6; omega) (by have := hf.num e6; omega)
        have hdz := digR_size c.num
        have hb := hbl [fRep ++ digR c.num] (Nat.le_refl 1) (by show 1 ≤ 3; omega) (hwz _ hws)
        have eR : (⟨#[114, 101, 112, 101, 97, 116, 32]⟩ : ByteArray) ++ digR c.num ++ ⟨#[32, 123]⟩ = fRep ++ digR c.num ++ fOpen := rfl
        simp only [List.map_cons, List.map_nil] at hb
        rw [hws] at hz ⊢
        refine sB Tryz.func77 Tryz.ntmps77 ?_
        intro hbox htok
        simp only at hbox htok
        apply AL.start
        have kn := key_lt hbox hk
        have t6 : (c.kind == 6) = true := by simp [e6]
        try (simp [e1, b1, e10, b10, e8, b8, e9, b9, e5, b5, e7, b7])
        repeat (first | (refine sR ?_; simp [e1, b1, e10, b10, e8, b8, e9, b9, e5, b5, e7, b7]) | (refine sC ?_; simp [e1, b1, e10, b10, e8, b8, e9, b9, e5, b5, e7, b7]) | (refine sX ?_; simp only [AU, ↓reduceIte]))
        refine ⟨fun _ => ?_, fun h => absurd e6 h⟩
        refine sN ?_
        refine AL.splitL (by rfl) (by rfl) follows_Tryz (Nat.le_refl _) (by kernel_rfl) ?_
        simp
        refine Stop.of_d (hit _ _) ?_
        simp
        refine ⟨by (simp only [bsz, ByteArray.size_append, List.size_toArray, List.length_cons, List.length_nil]; omega), by (simp only [bsz, ByteArray.size_append, List.size_toArray, List.length_cons, List.length_nil]; omega), ?_⟩
        rw [eR]
        refine Stop.data ?_
        refine Stop.of_a (hb k _ _ _ _ x y o _ hs (by simp only; rw [lb_out kn]; exact hk) ho hz) ?_
        rintro v m ⟨rfl, t2, tok2, nt2, hf2, rfl⟩
        simp only [FOps_nil]
        try (simp [upd_lb_out kn])
        repeat (first | (refine sR ?_; simp [upd_lb_out kn]) | (refine sC ?_; simp [upd_lb_out kn]) | (refine sX ?_; simp only [AU, ↓reduceIte]))
        refine sE ?_
        refine ⟨by simp, (Fin.gen (vs := []) (av := .tup []) (tok' := tok2) (nt' := nt2) (by simp [resAs, resA]) (by rw [← upd_lb_out kn, hbox]) hf2.le (Nat.le_refl _) (fun t ht => ⟨ht, .inl rfl⟩) (outG (by simp [lb_out kn, upd_same]; exact .buf trivial)) (by simp [packA])).mono fun v m hq => ?_⟩
        exact ⟨hq.1, t2, tok2, nt2, hf2, hq.2.trans rfl⟩
      have b6 : (c.kind == 6) = false := by simp [e6]
      by_cases e4 : c.kind = 4
      · have hws : wdsR c.kind c.num = kwIf := by rw [wdsR, if_neg (by omega), if_pos e4]
        have t4 : (c.kind == 4) = true := by simp [e4]
        have hwl : (kwIf.map (· ++ fOpen) : List ByteArray) = [⟨#[105, 102, 32, 123]⟩, ⟨#[125, 32, 116, 104, 101, 110, 32, 123]⟩, ⟨#[125, 32, 101, 108, 115, 101, 32, 123]⟩] := by decide
        have hb := hbl kwIf (by decide) (by decide) (hwz _ hws)
        rw [hwl] at hb
        rw [hws] at hz ⊢
        refine sB Tryz.func77 Tryz.ntmps77 ?_
        intro hbox htok
        simp only at hbox htok
        apply AL.start
        have kn := key_lt hbox hk
        try (simp [e1, b1, e10, b10, e8, b8, e9, b9, e5, b5, e7, b7, e6, b6, t4])
        repeat (first | (refine sR ?_; simp [e1, b1, e10, b10, e8, b8, e9, b9, e5, b5, e7, b7, e6, b6, t4]) | (refine sC ?_; simp [e1, b1, e10, b10, e8, b8, e9, b9, e5, b5, e7, b7, e6, b6, t4]) | (refine sX ?_; simp only [AU, ↓reduceIte]))
        refine ⟨rfl, ?_⟩
        refine Stop.data ?_
        refine Stop.of_a (hb k _ _ _ _ x y o _ hs (by simp only; rw [lb_out kn]; exact hk) ho hz) ?_
        rintro v m ⟨rfl, t2, tok2, nt2, hf2, rfl⟩
        try (simp [upd_lb_out kn])
        repeat (first | (refine sR ?_; simp [upd_lb_out kn]) | (refine sC ?_; simp [upd_lb_out kn]) | (refine sX ?_; simp only [AU, ↓reduceIte]))
        refine sE ?_
        refine ⟨by simp, (Fin.gen (vs := []) (av := .tup []) (tok' := tok2) (nt' := nt2) (by simp [resAs, resA]) (by rw [← upd_lb_out kn, hbox]) hf2.le (Nat.le_refl _) (fun t ht => ⟨ht, .inl rfl⟩) (outG (by simp [lb_out kn, upd_same]; exact .buf trivial)) (by simp [packA])).mono fun v m hq => ?_⟩
        exact ⟨hq.1, t2, tok2, nt2, hf2, hq.2.trans rfl⟩
      have b4 : (c.kind == 4) = false := by simp [e4]
      by_cases e3 : c.kind = 3
      · have hws : wdsR c.kind c.num = kwCho := by rw [wdsR, if_pos e3]
        have t3 : (c.kind == 3) = true := by simp [e3]
        have hwl : (kwCho.map (· ++ fOpen) : List ByteArray) = [⟨#[99, 104, 111, 111, 115, 101, 32, 123]⟩, ⟨#[125, 32, 111, 114, 32, 123]⟩] := by decide
        have hb := hbl kwCho (by decide) (by decide) (hwz _ hws)
        rw [hwl] at hb
        rw [hws] at hz ⊢
        refine sB Tryz.func77 Tryz.ntmps77 ?_
        intro hbox htok
        simp only at hbox htok
        apply AL.start
        have kn := key_lt hbox hk
        try (simp [e1, b1, e10, b10, e8, b8, e9, b9, e5, b5, e7, b7, e6, b6, e4, b4, t3])
        repeat (first | (refine sR ?_; simp [e1, b1, e10, b10, e8, b8, e9, b9, e5, b5, e7, b7, e6, b6, e4, b4, t3]) | (refine sC ?_; simp [e1, b1, e10, b10, e8, b8, e9, b9, e5, b5, e7, b7, e6, b6, e4, b4, t3]) | (refine sX ?_; simp only [AU, ↓reduceIte]))
        refine ⟨rfl, ?_⟩
        refine Stop.data ?_
        refine Stop.of_a (hb k _ _ _ _ x y o _ hs (by simp only; rw [lb_out kn]; exact hk) ho hz) ?_
        rintro v m ⟨rfl, t2, tok2, nt2, hf2, rfl⟩
        try (simp [upd_lb_out kn])
        repeat (first | (refine sR ?_; simp [upd_lb_out kn]) | (refine sC ?_; simp [upd_lb_out kn]) | (refine sX ?_; simp only [AU, ↓reduceIte]))
        refine sE ?_
        refine ⟨by simp, (Fin.gen (vs := []) (av := .tup []) (tok' := tok2) (nt' := nt2) (by simp [resAs, resA]) (by rw [← upd_lb_out kn, hbox]) hf2.le (Nat.le_refl _) (fun t ht => ⟨ht, .inl rfl⟩) (outG (by simp [lb_out kn, upd_same]; exact .buf trivial)) (by simp [packA])).mono fun v m hq => ?_⟩
        exact ⟨hq.1, t2, tok2, nt2, hf2, hq.2.trans rfl⟩
      have b3 : (c.kind == 3) = false := by simp [e3]
      exfalso
      unfold okB at hok
      simp [e1, e10, e8, e9, e5, e7, e6, e4, e3, hk2] at hok
    refine ⟨hL, ?_⟩
    intro k nb box tok nt x y o s hs hk ho hz
    have hok := hf.okB
    have hR := fmC_eq true ind c
    by_cases e2 : c.kind = 2
    · rw [if_pos (by simp [e2])] at hR
      rw [hR] at hz ⊢
      have t2 : (c.kind == 2) = true := by simp [e2]
      have hk2 : ∀ q ∈ c.kids, q.kind ≠ 2 := by
        intro q hq e
        have h1 := hok
        unfold okB at h1
        simp only [e2, if_true, Bool.and_eq_true, decide_eq_true_eq, Bool.not_eq_true', List.any_eq_false] at h1
        exact h1.1.1.2 q hq (by simp [e])
      refine sB Tryz.func41 Tryz.ntmps41 ?_
      intro hbox htok
      simp only at hbox htok
      apply AL.start
      have kn := key_lt hbox hk
      try (simp [t2])
      repeat (first | (refine sR ?_; simp [t2]) | (refine sC ?_; simp [t2]) | (refine sX ?_; simp only [AU, ↓reduceIte]))
      refine sN ?_
      refine AL.loopT (stBx c ind k nb box) (WInv (fun i => fmS ind (c.kids.take i)) c.kids.length k s o tok nt) (fun a => c.kids.length - a.i) ⟨0, x, y, o, tok, nt⟩ (WInv.of (Nat.zero_le _) (by simpa [fmS, bApp_empty] using hs) (Fol.refl ho) (fun h => absurd h (Nat.lt_irrefl 0)))
        (by
          simp only [stBx]
          rw [upd_keep hk]
          exact Weaks.mk' (Nat.le_refl _) (by simp [ToL, lk]; exact to_ptr (by rw [lb_out kn, hk]; simp)) (by simp [BoxL, lk, Cm.cells_eq]) (fun k rows _ h => .inl h)) ?_
      rintro ⟨i, x1, y1, o1, tok1, nt1⟩ S hinv hS
      obtain ⟨hi2, hw, hf, hxe⟩ := hinv
      simp only [stBx] at hS hi2 hw hf hxe ⊢
      subst hS
      have hwi : IntKind.i64.wrap ((i : Int) + 1) = ((i + 1 : Nat) : Int) := by rw [wrap_in (by omega) (by omega)]; rfl
      have hle := fmS_le ind c.kids i
      by_cases hlt : i < c.kids.length
      · have ht2 := fmS_take ind hlt
        have ht3 := fmS_le ind c.kids (i + 1)
        rw [ht2, ByteArray.size_append] at ht3
        have ihx := (ih _ (List.getElem_mem hlt) ind (by have := hdk _ (List.getElem_mem hlt); omega)).1 (hk2 _ (List.getElem_mem hlt))
        try (simp [hlt])
        repeat (refine sR ?_; simp [hlt])
        refine sC ?_
        simp
        try (simp [hlt, Cm.cells_eq])
        repeat (refine sR ?_; simp [hlt, Cm.cells_eq])
        generalize c.kids[i] = q at *
        try (simp)
        repeat (refine sR ?_; simp)
        refine Stop.of_a (ihx k _ _ _ _ x1 y1 o1 _ hw (by simp only; rw [lb_out kn, upd_same]) hf.live (by rw [ByteArray.size_append]; omega)) ?_
        rintro v m ⟨rfl, t3, tok3, nt3, hf3, rfl⟩
        try (simp [upd_lb_out kn, upd_upd, hwi])
        repeat (refine sR ?_; simp [upd_lb_out kn, upd_upd, hwi])
        refine sE ?_
        have hff := hf.trans hf3
        refine ⟨⟨i + 1, .ptr k 0 0, bufA t3 _, .tok t3, tok3, nt3⟩, WInv.of hlt (by simp only [ht2, ← ByteArray.append_assoc]; exact Wst.wrote) hff (fun _ => ⟨rfl, _, rfl⟩), by simp only; omega, ?_⟩
        simp only [stBx]
        exact Weaks.mk' hff.le (by simp [ToL, lk]; exact to_ptr (by rw [lb_out kn, upd_same]; simp)) (by simp [BoxL, lk, Cm.cells_eq]) (outG (wst_ok (T := WrT) Wst.wrote (by rw [lb_out kn, upd_same]; simp) fun _ => trivial))
      · have : i = c.kids.length := by omega
        subst this
        rw [List.take_length] at hw hle
        have hne : 0 < c.kids.length := by
          have h1 := hok
          unfold okB at h1
          simp only [e2, if_true, Bool.and_eq_true, decide_eq_true_eq] at h1
          have := h1.1.1.1
          omega
        obtain ⟨rfl, t3, rfl⟩ := hxe hne
        have hy : y1 = bufA t3 (s ++ fmS ind c.kids) := by
          rcases hw.y with ⟨_, _, e⟩ | ⟨t, e, e3⟩
          · cases e
          · cases e; exact e3
        subst hy
        try (simp [hlt])
        repeat (refine sR ?_; simp [hlt])
        refine sC ?_
        simp
        refine sX ?_
        simp only [AU, ↓reduceIte]
        try (simp)
        repeat (refine sR ?_; simp)
        refine sT ?_
        try simp only [AU]
        refine ⟨by simp, (Fin.gen (vs := []) (av := .tup []) (tok' := tok1) (nt' := nt1) (by simp [resAs, resA]) (by rw [← upd_lb_out kn, hbox]) hf.le (Nat.le_refl _) (fun t ht => ⟨ht, .inl rfl⟩) (outG (by simp [lb_out kn, upd_same]; exact .buf trivial)) (by simp [packA])).mono fun v m hq => ?_⟩
        exact ⟨hq.1, t3, tok1, nt1, hf, hq.2.trans rfl⟩
    · rw [if_neg (by simp [e2])] at hR
      have hR2 := fmC_eq false ind c
      rw [if_neg (by simp)] at hR2
      rw [← hR2] at hR
      rw [hR] at hz ⊢
      have b2 : (c.kind == 2) = false := by simp [e2]
      have hb := hL e2
      refine sB Tryz.func41 Tryz.ntmps41 ?_
      intro hbox htok
      simp only at hbox htok
      apply AL.start
      have kn := key_lt hbox hk
      try (simp [b2])
      repeat (first | (refine sR ?_; simp [b2]) | (refine sC ?_; simp [b2]) | (refine sX ?_; simp only [AU, ↓reduceIte]))
      refine Stop.of_a (hb k _ _ _ _ x y o _ hs (by simp only; rw [lb_out kn]; exact hk) ho hz) ?_
      rintro v m ⟨rfl, t2, tok2, nt2, hf2, rfl⟩
      try (simp [upd_lb_out kn])
      repeat (first | (refine sR ?_; simp [upd_lb_out kn]) | (refine sC ?_; simp [upd_lb_out kn]) | (refine sX ?_; simp only [AU, ↓reduceIte]))
      refine sE ?_
      refine ⟨by simp, (Fin.gen (vs := []) (av := .tup []) (tok' := tok2) (nt' := nt2) (by simp [resAs, resA]) (by rw [← upd_lb_out kn, hbox]) hf2.le (Nat.le_refl _) (fun t ht => ⟨ht, .inl rfl⟩) (outG (by simp [lb_out kn, upd_same]; exact .buf trivial)) (by simp [packA])).mono fun v m hq => ?_⟩
      exact ⟨hq.1, t2, tok2, nt2, hf2, hq.2.trans rfl⟩
end Go.AM
namespace Go.AM
open Go Go.Proofs
def stFq (p : List Pr) (nb : Nat) (box : Nat → Option (List (List AV))) (a : AccW) : AState :=
  ⟨tl [(18, .d (prs p)), (19, I p.length), (20, I a.i), (6, .ptr (nb + 6) 0 0), (1, .ptr (nb + 1) 0 0)], lb nb box [(6, [[a.x, a.y]]), (1, [[.d (prs p)]])], a.tok, a.nt⟩
set_option maxRecDepth 100000 in
theorem format_c (p : List Pr) (hp : PrsOk p) (tok : Nat → Bool) (nt : Nat) : DCall Tryz.prog 13 [prsAv p] tok nt (.tup [Sb (fmtR p).1, I (fmtR p).2]) tok nt := by
  intro box nb
  have hfc := fault_c p [] false hp (by simp)
  have hN : fmtR p = if (faultR p [] false).2 ≠ 0 then (⟨#[]⟩, (faultR p [] false).2) else (fmPs p, 0) := rfl
  have hfm := @fault_fm p
  have hval := fault_valid (p := p) (rs := []) (asked := false)
  have hlen := hp.len
  generalize faultR p [] false = F at *
  refine sB Tryz.func13 Tryz.ntmps13 ?_
  intro hbox htok
  simp only at hbox htok
  apply AL.start
  have ht0 := TK.start htok
  try (simp)
  repeat (refine sR ?_; simp)
  refine Stop.sub (args' := [prsAv p, .d (rules46 []), B false]) ⟨Sub.refl _, Sub.nil _ _ _, Sub.refl _, trivial⟩ ?_
  refine Stop.of_d (hfc _ _) ?_
  simp
  by_cases he : F.2 = 0
  · rw [if_neg (by simp [he])] at hN
    obtain ⟨hl, hq⟩ := hfm he
    obtain ⟨_, _, h1p, _⟩ := hval he
    have be : (F.2 != 0) = false := by simp [he]
    have hall := fmPs_size p hq
    try (simp [be])
    repeat (first | (refine sR ?_; simp [be]) | (refine sC ?_; simp [be]) | (refine sX ?_; simp only [AU, ↓reduceIte]))
    refine sN ?_
    refine AL.loopT (stFq p nb box) (WInv (fun i => fmPs (p.take i)) p.length (nb + 6) ⟨#[]⟩ .full tok nt) (fun a => p.length - a.i) ⟨0, .here (nb + 6) WrT, nilS, .full, tok, nt⟩ (WInv.of (Nat.zero_le _) ⟨.inl rfl, .inl ⟨rfl, rfl, rfl⟩⟩ (Fol.refl trivial) (fun h => absurd h (Nat.lt_irrefl 0)))
      (Weaks.mk (Nat.le_refl _) rfl (by simp [ToL, lk]) (by simp [BoxL, lk])) ?_
    rintro ⟨i, x1, y1, o1, tok1, nt1⟩ S hinv hS
    obtain ⟨hi2, hw, hf, hxe⟩ := hinv
    simp only [stFq] at hS hi2 hw hf hxe ⊢
    subst hS
    have hwi : IntKind.i64.wrap ((i : Int) + 1) = ((i + 1 : Nat) : Int) := by rw [wrap_in (by omega) (by omega)]; rfl
    have hle := fmPs_le p i
    by_cases hlt : i < p.length
    · obtain ⟨q1, q2, q3, q4⟩ := hq _ (List.getElem_mem hlt)
      have hx := (wCmd_c _ p[i].body (Nat.lt_succ_self _) q4 (by omega) 1 (by omega)).2
      have ht2 := fmPs_take hlt
      have ht3 := fmPs_le p (i + 1)
      rw [ht2, fmP] at ht3
      simp only [ByteArray.size_append] at ht3
      try (simp [hlt])
      repeat (refine sR ?_; simp [hlt])
      refine sC ?_
      simp
      try (simp [hlt])
      repeat (refine sR ?_; simp [hlt])
      generalize p[i] = q at *
      have eA : (⟨#[112, 114, 111, 99, 101, 100, 117, 114, 101, 32]⟩ : ByteArray) ++ q.name ++ ⟨#[32, 123]⟩ = fPro ++ (q.name ++ fOpen) := ByteArray.append_assoc
      refine ⟨by (simp only [bsz, ByteArray.size_append, List.size_toArray, List.length_cons, List.length_nil]; omega), by (simp only [bsz, ByteArray.size_append, List.size_toArray, List.length_cons, List.length_nil]; omega), ?_⟩
      rw [eA]
      rw [bEmpty_app] at hw
      refine Stop.of_a (line_c (nb + 6) _ _ _ _ x1 y1 o1 _ hw (by simp [lb_at, lk]) hf.live 0 (by omega) _ (by omega)) ?_
      rintro v m ⟨rfl, t2, tok2, nt2, hf2, rfl⟩
      try (simp)
      repeat (refine sR ?_; simp)
      refine Stop.of_a (hx (nb + 6) _ _ _ _ (.ptr (nb + 6) 0 0) (bufA t2 (fmPs (p.take i) ++ lineR 0 (fPro ++ (q.name ++ fOpen)))) (.tok t2) (fmPs (p.take i) ++ lineR 0 (fPro ++ (q.name ++ fOpen))) Wst.wrote (by simp [lb_at, lk]) hf2.live (by rw [ByteArray.size_append]; omega)) ?_
      rintro v m ⟨rfl, t3, tok3, nt3, hf3, rfl⟩
      try (simp)
      repeat (refine sR ?_; simp)
      refine Stop.of_a (line_c (nb + 6) _ _ _ _ (.ptr (nb + 6) 0 0) (bufA t3 (fmPs (p.take i) ++ lineR 0 (fPro ++ (q.name ++ fOpen)) ++ fmC true 1 q.body)) (.tok t3) (fmPs (p.take i) ++ lineR 0 (fPro ++ (q.name ++ fOpen)) ++ fmC true 1 q.body) Wst.wrote (by simp [lb_at, lk]) hf3.live 0 (by omega) _ (by rw [ByteArray.size_append, ByteArray.size_append]; omega)) ?_
      rintro v m ⟨rfl, t4, tok4, nt4, hf4, rfl⟩
      try (simp [hwi])
      repeat (refine sR ?_; simp [hwi])
      refine sE ?_
      have hff := hf.trans (hf2.trans (hf3.trans hf4))
      have eS : (⟨#[]⟩ : ByteArray) ++ fmPs (p.take (i + 1)) = fmPs (p.take i) ++ lineR 0 (fPro ++ (q.name ++ fOpen)) ++ fmC true 1 q.body ++ lineR 0 ⟨#[125]⟩ := by
        rw [bEmpty_app, ht2, fmP]
        simp only [ByteArray.append_assoc]
      refine ⟨⟨i + 1, .ptr (nb + 6) 0 0, bufA t4 (fmPs (p.take i) ++ lineR 0 (fPro ++ (q.name ++ fOpen)) ++ fmC true 1 q.body ++ lineR 0 ⟨#[125]⟩), .tok t4, tok4, nt4⟩, WInv.of hlt (by simp only [eS]; exact Wst.wrote) hff (fun _ => ⟨rfl, _, rfl⟩), by simp only; omega, ?_⟩
      simp only [stFq]
      exact Weaks.mk hff.le rfl (by simp [ToL, lk]) (by simp [BoxL, lk])
    · have : i = p.length := by omega
      subst this
      rw [List.take_length, bEmpty_app] at hw
      obtain ⟨rfl, t3, rfl⟩ := hxe (by omega)
      have hy : y1 = bufA t3 (fmPs p) := by
        rcases hw.y with ⟨_, _, e⟩ | ⟨t, e, e3⟩
        · cases e
        · cases e; exact e3
      subst hy
      have hpos : 0 < (fmPs p).size := by
        have h0 : 0 < p.length := by omega
        have h1 := fmPs_le p 1
        have h2 := fmPs_take (l := p) (i := 0) h0
        have h3 : (fmP p[0]).size ≤ (fmPs (p.take 1)).size := by rw [h2, ByteArray.size_append]; omega
        have h4 : 0 < (fmP p[0]).size := by simp only [fmP, ByteArray.size_append, lineR_size]; omega
        omega
      have hlv : tok1 t3 = true := hf.live
      try (simp [hlt])
      repeat (refine sR ?_; simp [hlt])
      refine sC ?_
      simp
      refine sX ?_
      simp only [AU, ↓reduceIte]
      try (simp)
      repeat (refine sR ?_; simp)
      refine Stop.of_a (stringB_c (nb + 6) _ _ _ _ (.ptr (nb + 6) 0 0) t3 (fmPs p) hpos (by simp [lb_at, lk]) hlv) ?_
      rintro v m ⟨rfl, rfl⟩
      have htk := hf.tk tok nt [] ht0.full
      have hold : ∀ t, tok t = true → (upd tok1 t3 false) t = true := by
        intro t ht
        have h1 := (htk.own _ (by simp) t3 rfl).2.1
        have h2 := htk.lt t ht
        rw [upd_other _ _ (by omega)]
        exact htk.old t ht
      try (simp)
      repeat (refine sR ?_; simp)
      refine sT ?_
      try simp only [AU]
      refine ⟨by simp, sF hbox htok hold htk.le ?_⟩
      simp [packA, hN]
  · rw [if_pos he] at hN
    have be : (F.2 != 0) = true := by simp [he]
    try (simp [be])
    repeat (first | (refine sR ?_; simp [be]) | (refine sC ?_; simp [be]) | (refine sX ?_; simp only [AU, ↓reduceIte]))
    refine sT ?_
    try simp only [AU]
    refine ⟨by simp, sF hbox htok (fun _ h => h) (Nat.le_refl _) ?_⟩
    simp [packA, hN]
end Go.AM
namespace Go.AM
open Go Go.Proofs
@[simp] theorem lb_base46 (base : Nat) (out : Nat → Option (List (List AV))) (loc : List (Nat × List (List AV))) : lb base out loc base = lk loc 0 := lb_at base 0 out loc
@[simp] theorem upd_lb_base46 (base : Nat) (out : Nat → Option (List (List AV))) (loc : List (Nat × List (List AV))) (rows : List (List AV)) : upd (lb base out loc) base (some rows) = lb base out ((0, rows) :: loc) := upd_lb base 0 out loc rows
@[simp] theorem to_ptr_base46 {q : Nat → Prop} {fz : Option (Nat × Nat × List (List D))} {base i off : Nat} {out : Nat → Option (List (List AV))} {loc : List (Nat × List (List AV))} : To (fun k => lb base out loc k ≠ none) q fz (.ptr base i off) (.ptr base i off) ↔ lk loc 0 ≠ none := to_ptr_lb (s := 0)
def stEq (xs ys : List ByteArray) (nb : Nat) (box : Nat → Option (List (List AV))) (tok : Nat → Bool) (nt : Nat) (i : Nat) : AState :=
  ⟨tl [(0, .d (strs xs)), (1, .d (strs ys)), (12, I xs.length), (13, I i)], lb nb box [], tok, nt⟩
set_option maxRecDepth 100000 in
theorem equalS_c (xs ys : List ByteArray) (hx : xs.length ≤ 1000000000) (hy : ys.length ≤ 1000000000) (tok : Nat → Bool) (nt : Nat) : DCall Tryz.prog 22 [.d (strs xs), .d (strs ys)] tok nt (B (decide (xs = ys))) tok nt := by
  intro box nb
  refine sB Tryz.func22 Tryz.ntmps22 ?_
  intro hbox htok
  simp only at hbox htok
  apply AL.start
  by_cases hl : xs.length = ys.length
  · have hl' : (xs.length : Int) = ys.length := by omega
    try (simp [hl'])
    repeat (first | (refine sR ?_; simp [hl']) | (refine sC ?_; simp [hl']) | (refine sX ?_; simp only [AU, ↓reduceIte]))
    refine sN ?_
    refine AL.loopT (stEq xs ys nb box tok nt) (fun i => i ≤ xs.length ∧ xs.take i = ys.take i) (fun i => xs.length - i) 0 ⟨Nat.zero_le _, by simp⟩ (Weaks.mk (Nat.le_refl _) rfl (by simp [ToL, lk, hl]) trivial) ?_
    rintro i S' ⟨hi, htk⟩ hS
    simp only [stEq] at hS
    subst hS
    have hw := sW (i := i) (by omega)
    by_cases hlt : i < xs.length
    · have hlt2 : i < ys.length := by omega
      by_cases he : xs[i] = ys[i]
      · have b : (xs[i].toList == ys[i].toList) = true := by rw [seq_dec]; simpa using he
        have b2 : (xs[i].toList != ys[i].toList) = false := by simp [bne, b]
        try (simp [hlt, hlt2])
        repeat (refine sR ?_; simp [hlt, hlt2])
        refine sC ?_
        simp
        try (simp [hlt, hlt2, b2, b, he])
        repeat (first | (refine sR ?_; simp [hlt, hlt2, b2, b, he]) | (refine sC ?_; simp [hlt, hlt2, b2, b, he]) | (refine sX ?_; simp only [AU, ↓reduceIte]))
        try (simp [hw])
        repeat (first | (refine sR ?_; simp [hw]) | (refine sC ?_; simp [hw]) | (refine sX ?_; simp only [AU, ↓reduceIte]))
        refine sE ?_
        refine ⟨i + 1, ⟨hlt, ?_⟩, by omega, Weaks.mk (Nat.le_refl _) rfl (by simp [ToL, lk]) trivial⟩
        rw [List.take_succ_eq_append_getElem hlt, List.take_succ_eq_append_getElem hlt2, htk, he]
      · have b : (xs[i].toList == ys[i].toList) = false := by rw [seq_dec]; simpa using he
        have b2 : (xs[i].toList != ys[i].toList) = true := by simp [bne, b]
        have hne : ¬ xs = ys := fun e => he (by subst e; rfl)
        try (simp [hlt, hlt2])
        repeat (refine sR ?_; simp [hlt, hlt2])
        refine sC ?_
        simp
        try (simp [hlt, hlt2, b2, b, he])
        repeat (first | (refine sR ?_; simp [hlt, hlt2, b2, b, he]) | (refine sC ?_; simp [hlt, hlt2, b2, b, he]) | (refine sX ?_; simp only [AU, ↓reduceIte]))
        refine sT ?_
        try simp only [AU]
        refine ⟨by simp, sF hbox htok (fun _ h => h) (Nat.le_refl _) ?_⟩
        simp [packA, hne]
    · have hxy : xs = ys := by rw [List.take_of_length_le (by omega), List.take_of_length_le (by omega)] at htk; exact htk
      try (simp [hlt])
      repeat (refine sR ?_; simp [hlt])
      refine sC ?_
      simp
      refine sX ?_
      simp only [AU, ↓reduceIte]
      try (simp)
      repeat (refine sR ?_; simp)
      refine sT ?_
      try simp only [AU]
      refine ⟨by simp, sF hbox htok (fun _ h => h) (Nat.le_refl _) ?_⟩
      simp [packA, hxy]
  · have hl' : ¬ (xs.length : Int) = ys.length := by omega
    have hne : ¬ xs = ys := fun e => hl (by rw [e])
    have b2 : ((xs.length : Int) != ys.length) = true := by simp [hl']
    try (simp [hl', b2, hl])
    repeat (first | (refine sR ?_; simp [hl', b2, hl]) | (refine sC ?_; simp [hl', b2, hl]) | (refine sX ?_; simp only [AU, ↓reduceIte]))
    refine sT ?_
    try simp only [AU]
    refine ⟨by simp, sF hbox htok (fun _ h => h) (Nat.le_refl _) ?_⟩
    simp [packA, hne]
theorem hasPrefix_c (s p : ByteArray) (tok : Nat → Bool) (nt : Nat) : DCall Tryz.prog 37 [Sb s, Sb p] tok nt (B (Lib.hasPrefix s.data.toList p.data.toList)) tok nt := by
  intro box nb
  refine ⟨Enters.mk Tryz.func37 rfl (by kernel_rfl), fun G w vals hm hr => ?_⟩
  obtain ⟨hlen, hrv⟩ := hr
  match vals, hlen with
  | [v, u], _ =>
    have h0 := hrv 0 (by simp) (by simp)
    have h1 := hrv 1 (by simp) (by simp)
    simp only [List.getElem_cons_zero, List.getElem_cons_succ] at h0 h1
    cases h0 with | d h0 =>
    cases h1 with | d h1 =>
    cases h0
    cases h1
    refine (Tryz.strings_HasPrefix s p w).mono ?_
    rintro e w' ⟨rfl, rfl⟩
    exact ⟨_, _, _, G, rfl, ⟨rfl, rfl⟩, rfl, hm, .d (.raw rfl), Le.refl _ _, fun k hk => ⟨hk, rfl⟩⟩
def nMerge : ByteArray := ⟨#[109, 101, 114, 103, 101]⟩
def nPay : ByteArray := ⟨#[112, 97, 121]⟩
def nTidy : ByteArray := ⟨#[116, 105, 100, 121]⟩
def nMain : ByteArray := ⟨#[109, 97, 105, 110]⟩
def cApply (s : ByteArray) : Cm := .mk 1 s 0 []
def exLoop : Cm := .mk 5 ⟨#[]⟩ 0 [cApply nMerge]
def exMain : Cm := .mk 2 ⟨#[]⟩ 0 [cApply nPay, .mk 10 nTidy 0 []]
def exP : List Pr := [⟨nTidy, exLoop⟩, ⟨nMain, exMain⟩]
theorem apply1_c (s : ByteArray) (tok : Nat → Bool) (nt : Nat) : DCall Tryz.prog 71 [Sb s] tok nt (cApply s).av tok nt := by
  intro box nb
  refine sB Tryz.func71 Tryz.ntmps71 ?_
  intro hbox htok
  simp only at hbox htok
  apply AL.start
  try (simp)
  repeat (first | (refine sR ?_; simp) | (refine sC ?_; simp) | (refine sX ?_; simp only [AU, ↓reduceIte]))
  refine sT ?_
  try simp only [AU]
  refine ⟨by simp, sF hbox htok (fun _ h => h) (Nat.le_refl _) ?_⟩
  simp [packA, cApply, Cm.kind, Cm.name, Cm.num, Cm.kids, cms]
theorem dssN46 : DSs [] [] := ⟨rfl, fun i h => by simp at h⟩
theorem dssC46 {r r' : List D} {rs rs' : List (List D)} (h : DS1 r r') (k : DSs rs rs') : DSs (r :: rs) (r' :: rs') :=
  ⟨by simp [k.1], fun i h1 h2 => by
    cases i with
    | zero => exact h
    | succ i => exact k.2 i (by simpa using h1) (by simpa using h2)⟩
abbrev lStr (s : ByteArray) : D := .raw (.string s)
abbrev lInt (n : Int) : D := .raw (.int .i64 n)
theorem ex_sub : DSub (.sl 5 [[lStr nTidy, lInt 5, lStr ⟨#[]⟩, lInt 0, .sl 4 [[lInt 1, lStr nMerge, lInt 0, .sl 4 []]]], [lStr nMain, lInt 2, lStr ⟨#[]⟩, lInt 0, .sl 4 [[lInt 1, lStr nPay, lInt 0, .sl 4 []], [lInt 10, lStr nTidy, lInt 0, .sl 0 []]]]]) (prs exP) := by
  have h : DSub (.sl 4 [[lInt 1, lStr nPay, lInt 0, .sl 4 []], [lInt 10, lStr nTidy, lInt 0, .sl 0 []]]) (.sl 4 [[lInt 1, lStr nPay, lInt 0, .sl 4 []], [lInt 10, lStr nTidy, lInt 0, .sl 4 []]]) := DSs.sub (dssC46 (by simp) (dssC46 (by simp) dssN46)) 4
  show DSub _ (.sl 5 [[lStr nTidy, lInt 5, lStr ⟨#[]⟩, lInt 0, .sl 4 [[lInt 1, lStr nMerge, lInt 0, .sl 4 []]]], [lStr nMain, lInt 2, lStr ⟨#[]⟩, lInt 0, .sl 4 [[lInt 1, lStr nPay, lInt 0, .sl 4 []], [lInt 10, lStr nTidy, lInt 0, .sl 4 []]]]])
  exact DSs.sub (dssC46 (by simp) (dssC46 (by simp [h]) dssN46)) 5
set_option maxRecDepth 100000 in
theorem example_c (tok : Nat → Bool) (nt : Nat) : DCall Tryz.prog 36 [] tok nt (prsAv exP) tok nt := by
  intro box nb
  have h1 := apply1_c nMerge
  have h2 := apply1_c nPay
  refine sB Tryz.func36 Tryz.ntmps36 ?_
  intro hbox htok
  simp only at hbox htok
  apply AL.start
  try (simp)
  repeat (first | (refine sR ?_; simp) | (refine sC ?_; simp) | (refine sX ?_; simp only [AU, ↓reduceIte]))
  refine Stop.of_d (h1 _ _) ?_
  simp
  try (simp)
  repeat (first | (refine sR ?_; simp) | (refine sC ?_; simp) | (refine sX ?_; simp only [AU, ↓reduceIte]))
  refine Stop.of_d (h2 _ _) ?_
  simp
  try (simp)
  repeat (first | (refine sR ?_; simp) | (refine sC ?_; simp) | (refine sX ?_; simp only [AU, ↓reduceIte]))
  refine ⟨rfl, ?_⟩
  try (simp)
  repeat (first | (refine sR ?_; simp) | (refine sC ?_; simp) | (refine sX ?_; simp only [AU, ↓reduceIte]))
  refine ⟨rfl, ?_⟩
  try (simp)
  repeat (first | (refine sR ?_; simp) | (refine sC ?_; simp) | (refine sX ?_; simp only [AU, ↓reduceIte]))
  refine sT ?_
  try simp only [AU]
  refine ⟨by simp, sF hbox htok (fun _ h => h) (Nat.le_refl _) ?_⟩
  simp [packA, cApply, Cm.kind, Cm.name, Cm.num, Cm.kids, cms]
  exact .odsub ex_sub
end Go.AM
namespace Go.AM
open Go Go.Proofs
structure AccP where
  x : TS
  ls : List Int
  o1 : Own
  o2 : Own
  tok : Nat → Bool
  nt : Nat
  f : Nat
structure PInv (L : List Tk) (R : TS) (mtok : Nat → Bool) (nt0 : Nat) (a : AccP) : Prop where
  ok : TOk L a.x
  f : rem L a.x.r ≤ a.f
  e : topR L a.f a.x = R
  l : a.x.r.bad < 0 → a.ls = a.x.ls
  n : a.ls.length ≤ a.x.ps.length
  k : TK mtok nt0 a.tok a.nt [a.o1, a.o2]
theorem PInv.of {L : List Tk} {R : TS} {mtok : Nat → Bool} {nt0 : Nat} {x : TS} {ls : List Int} {o1 o2 : Own} {tok : Nat → Bool} {nt f : Nat} (h1 : TOk L x) (h2 : rem L x.r ≤ f) (h3 : topR L f x = R) (h4 : x.r.bad < 0 → ls = x.ls) (h5 : ls.length ≤ x.ps.length) (h6 : TK mtok nt0 tok nt [o1, o2]) :
    PInv L R mtok nt0 ⟨x, ls, o1, o2, tok, nt, f⟩ := ⟨h1, h2, h3, h4, h5, h6⟩
def stPa (L : List Tk) (nb : Nat) (box : Nat → Option (List (List AV))) (a : AccP) : AState :=
  ⟨tl [(5, .d (tks L)), (8, .ptr (nb + 27) 0 0), (9, .ptr (nb + 9) 0 0), (2, .ptr (nb + 2) 0 0), (10, .osl 1 (a.ls.map fun n => [.raw (.int .i64 n)]) a.o1)],
    lb nb box [(27, [a.x.r.row L]), (9, [[.osl 5 (a.x.ps.map Pr.cells) a.o2]]), (2, [[nilS]])], a.tok, a.nt⟩
theorem topS_peek {L : List Tk} {x : TS} (h : x.r.Ok L) (hb : (topS L x).r.bad < 0) : peekB L x.r sPro = true := by
  rcases Bool.eq_false_or_eq_true (peekB L x.r sPro) with hp | hp
  · exact hp
  · exfalso
    have h1 := AdvS.take h sPro
    have h2 := AdvS.kind h1.ok 1
    have h5 := (p_adv L (L.length + 1)).2 _ h2.ok
    have e1 : ¬ (takeR L x.r sPro).bad < 0 := by
      rw [takeR, if_neg (by simp [hp])]
      unfold failR
      split
      · simp only; omega
      · rename_i hx; exact hx
    have e2 := h2.bd (by omega)
    rw [e2] at h5
    have e3 := h5.bd (by omega)
    unfold topS at hb
    simp only [e2] at hb
    simp only at e3
    rw [e3] at hb
    exact e1 hb
structure AccQ where
  ls : List Int
  o1 : Own
  tok : Nat → Bool
  nt : Nat
structure QInv (L : List Tk) (r : RS) (ls : List Int) (o2 : Own) (mtok : Nat → Bool) (nt0 : Nat) (q : AccQ) : Prop where
  p : peekB L r sPro = true → q.ls = ls ++ [lineAt L r.at']
  n : q.ls.length ≤ ls.length + 1
  k : TK mtok nt0 q.tok q.nt [q.o1, o2]
def stPq (L : List Tk) (nb : Nat) (box : Nat → Option (List (List AV))) (x : TS) (o2 : Own) (q : AccQ) : AState :=
  ⟨tl [(5, .d (tks L)), (8, .ptr (nb + 27) 0 0), (9, .ptr (nb + 9) 0 0), (2, .ptr (nb + 2) 0 0), (10, .osl 1 (q.ls.map fun n => [.raw (.int .i64 n)]) q.o1)],
    lb nb box [(27, [x.r.row L]), (9, [[.osl 5 (x.ps.map Pr.cells) o2]]), (2, [[nilS]])], q.tok, q.nt⟩
set_option maxRecDepth 100000 in
theorem parse_c (s : ByteArray) (hs : s.size ≤ 200000000000000) (tok : Nat → Bool) (nt : Nat) : DCall Tryz.prog 15 [Sb s] tok nt (.tup [prsAv (parseR s).1, I (parseR s).2.1, I (parseR s).2.2]) tok nt := by
  intro box nb
  have ht := tokens_c s hs
  obtain ⟨hT, hL⟩ := toksR_ok s
  obtain ⟨N, hN⟩ : ∃ N, parseR s = N := ⟨_, rfl⟩
  rw [hN]
  unfold parseR at hN
  generalize toksR s = K at *
  refine sB Tryz.func15 Tryz.ntmps15 ?_
  intro hbox htok
  simp only at hbox htok
  apply AL.start
  have ht0 := TK.start htok
  try (simp)
  repeat (refine sR ?_; simp)
  refine Stop.of_d (ht _ _) ?_
  simp
  try (simp)
  repeat (refine sR ?_; simp)
  by_cases he : K.2.2 = 0
  · rw [if_neg (by simp [he])] at hN
    have be : (K.2.2 != 0) = false := by simp [he]
    generalize K.1 = L at *
    have hT2 : ∀ t ∈ L, t.text.size ≤ 200000000000000 := fun t h => by have := hT t h; omega
    simp only [be]
    try (simp)
    repeat (first | (refine sR ?_; simp) | (refine sC ?_; simp) | (refine sX ?_; simp only [AU, ↓reduceIte]))
    refine sN ?_
    obtain ⟨R, hR⟩ : ∃ R, topR L (L.length + 1) ⟨⟨0, -1⟩, [], []⟩ = R := ⟨_, rfl⟩
    unfold parseL at hN
    rw [hR] at hN
    refine AL.loopT (stPa L nb box) (PInv L R tok nt) (fun a => a.f) ⟨⟨⟨0, -1⟩, [], []⟩, [], .full, .full, tok, nt, L.length + 1⟩ (PInv.of (TOk.start L) (by simp [rem]) hR (fun _ => rfl) (by simp) ht0.full.full)
      (Weaks.mk (Nat.le_refl _) rfl (by simp [ToL, lk]) (by simp [BoxL, lk])) ?_
    rintro ⟨x, ls, o1, o2, tok1, nt1, f⟩ S hinv hS
    obtain ⟨ho, hf, hRR, hls, hn, htk⟩ := hinv
    simp only [stPa] at hS ho hf hRR hls hn htk ⊢
    subst hS
    have hok := ho.ok
    have hps := ho.ln
    by_cases hc : x.r.bad < 0 ∧ (x.r.at' < L.length ∨ L.length = 0)
    · obtain ⟨hb, hc2⟩ := hc
      have hpos := rem_pos hb hok
      obtain ⟨f, rfl⟩ : ∃ f', f = f' + 1 := ⟨f - 1, by omega⟩
      rw [topR, if_pos ⟨hb, hc2⟩] at hRR
      obtain ⟨hto, hlt⟩ := topS_ok (by omega) hT2 ho hb
      have pk := peek_c L x.r sPro (nb + 27)
      have hrl := rem_le L x.r
      refine sN ?_
      refine AL.cutP (l := [_, _]) (stPa L nb box ⟨x, ls, o1, o2, tok1, nt1, f⟩) True ?_ fun _ => ?_
      · by_cases h1 : x.r.at' < L.length
        · have h1' : (x.r.at' : Int) < L.length := by omega
          try (simp [lk, hb, h1'])
          repeat (first | (refine sR ?_; simp [lk, hb, h1']) | (refine sC ?_; simp [lk, hb, h1']) | (refine sX ?_; simp only [AU, ↓reduceIte]))
          refine sE ?_
          first | exact ⟨trivial, (Weaks.mk htk.le rfl (by simp [stPa, ToL, lk]) (by simp [stPa, BoxL, lk]))⟩ | exact (Weaks.mk htk.le rfl (by simp [stPa, ToL, lk]) (by simp [stPa, BoxL, lk]))
        · have h1' : ¬ (x.r.at' : Int) < L.length := by omega
          have h2' : ((L.length : Int) == 0) = true := by rw [beq_iff_eq]; omega
          try (simp [lk, hb, h1', h2'])
          repeat (first | (refine sR ?_; simp [lk, hb, h1', h2']) | (refine sC ?_; simp [lk, hb, h1', h2']) | (refine sX ?_; simp only [AU, ↓reduceIte]))
          refine sE ?_
          first | exact ⟨trivial, (Weaks.mk htk.le rfl (by simp [stPa, ToL, lk]) (by simp [stPa, BoxL, lk]))⟩ | exact (Weaks.mk htk.le rfl (by simp [stPa, ToL, lk]) (by simp [stPa, BoxL, lk]))
      · simp only [stPa]
        refine sN ?_
        refine AL.cut (l := [_, _]) (stPq L nb box x o2) (QInv L x.r ls o2 tok nt) ?_ ?_
        · try (simp)
          repeat (refine sR ?_; simp)
          refine Stop.of_a (pk _ (by simp [lb_at, lk]) _ _ _) ?_
          rintro v m ⟨rfl, rfl⟩
          cases hp : peekB L x.r sPro
          · try (simp)
            repeat (first | (refine sR ?_; simp) | (refine sC ?_; simp) | (refine sX ?_; simp only [AU, ↓reduceIte]))
            refine sE ?_
            exact ⟨⟨ls, o1, tok1, nt1⟩, ⟨by simp [hp], by simp, htk⟩, Weaks.mk htk.le rfl (by simp [stPq, ToL, lk]) (by simp [stPq, BoxL, lk])⟩
          · have hpp := hp
            unfold peekB at hpp
            simp only [Bool.and_eq_true, decide_eq_true_eq] at hpp
            have hpa := at_lt hpp.2
            have hpa' : (x.r.at' : Int) < L.length := by omega
            have hli : lineAt L x.r.at' = L[x.r.at'].line := by simp [lineAt, hpa]
            try (simp [lk, hpa, hpa'])
            repeat (first | (refine sR ?_; simp [lk, hpa, hpa']) | (refine sC ?_; simp [lk, hpa, hpa']) | (refine sX ?_; simp only [AU, ↓reduceIte]))
            refine ⟨⟨by omega, htk.live⟩, ?_⟩
            try (simp)
            repeat (first | (refine sR ?_; simp) | (refine sC ?_; simp) | (refine sX ?_; simp only [AU, ↓reduceIte]))
            refine sE ?_
            exact ⟨⟨ls ++ [lineAt L x.r.at'], .tok nt1, upd (o1.kill tok1) nt1 true, nt1 + 1⟩, ⟨fun _ => rfl, by simp, htk.app⟩, Weaks.mk (by have := htk.le; omega) rfl (by simp [stPq, ToL, lk, hli]) (by simp [stPq, BoxL, lk])⟩
        · rintro ⟨ls2, o3, tok2, nt2⟩ hq
          obtain ⟨hqp, hqn, htk2⟩ := hq
          simp only [stPq] at hqp hqn htk2 ⊢
          have hpeek := topS_peek (L := L) hok
          have t1 := take_c L x.r hok (by omega) sPro (nb + 27)
          have h1 := AdvS.take hok sPro
          have hT1 : topS L x = ⟨(pBlk L (L.length + 1) (kindR L (takeR L x.r sPro) 1).2).2, x.ps ++ [⟨(kindR L (takeR L x.r sPro) 1).1, (pBlk L (L.length + 1) (kindR L (takeR L x.r sPro) 1).2).1⟩], x.ls ++ [lineAt L x.r.at']⟩ := rfl
          generalize takeR L x.r sPro = r1 at *
          have k1 := kind_c L r1 h1.ok (by omega) 1 (nb + 27)
          have h2 := AdvS.kind h1.ok 1
          obtain ⟨w, r2, hw⟩ : ∃ w r2, kindR L r1 1 = (w, r2) := ⟨_, _, rfl⟩
          rw [hw] at k1 h2 hT1
          simp only at k1 h2 hT1
          have b1 := (p_all L (by omega) hT2 (L.length + 1)).2 r2 h2.ok (rem_le L r2) (nb + 27)
          obtain ⟨c, r3, hc3⟩ : ∃ c r3, pBlk L (L.length + 1) r2 = (c, r3) := ⟨_, _, rfl⟩
          rw [hc3] at hT1
          simp only [hc3] at b1 hT1
          try (simp)
          repeat (first | (refine sR ?_; simp) | (refine sC ?_; simp) | (refine sX ?_; simp only [AU, ↓reduceIte]))
          refine Stop.of_a (t1 _ (by simp [lb_at, lk]) _ _ _) ?_
          rintro v m ⟨rfl, rfl⟩
          try (simp)
          repeat (first | (refine sR ?_; simp) | (refine sC ?_; simp) | (refine sX ?_; simp only [AU, ↓reduceIte]))
          refine Stop.of_a (k1 _ (by simp [lb_at, lk]) _ _ _) ?_
          rintro v m ⟨rfl, rfl⟩
          try (simp)
          repeat (first | (refine sR ?_; simp) | (refine sC ?_; simp) | (refine sX ?_; simp only [AU, ↓reduceIte]))
          refine Stop.of_a (b1 _ (by simp [lb_at, lk]) _ _ _) ?_
          rintro v m ⟨rfl, rfl⟩
          try (simp [lk])
          repeat (first | (refine sR ?_; simp [lk]) | (refine sC ?_; simp [lk]) | (refine sX ?_; simp only [AU, ↓reduceIte]))
          refine ⟨⟨by omega, htk2.swap.live⟩, ?_⟩
          try (simp)
          repeat (first | (refine sR ?_; simp) | (refine sC ?_; simp) | (refine sX ?_; simp only [AU, ↓reduceIte]))
          refine sE ?_
          refine ⟨⟨topS L x, ls2, o3, .tok nt2, upd (o2.kill tok2) nt2 true, nt2 + 1, f⟩, PInv.of hto (by omega) hRR (fun hb2 => ?_) ?_ htk2.swap.app.swap, by simp only; omega, ?_⟩
          · rw [hqp (hpeek hb2), hls hb]; rfl
          · rw [hT1]; simp; omega
          · simp only [stPa, hT1]
            exact Weaks.mk (by have := htk2.le; omega) rfl (by simp [ToL, lk]) (by simp [BoxL, lk, Pr.cells])
    · have hRx : R = x := by
        cases f with
        | zero => exact hRR.symm
        | succ f => rw [topR, if_neg hc] at hRR; exact hRR.symm
      have hexit : ¬ x.r.bad < 0 ∨ (¬ x.r.at' < L.length ∧ ¬ L.length = 0) := by omega
      rw [hRx] at hN
      have hfc := fault_c x.ps [] false (ho.prs (by omega)) (by simp)
      have hrg := faultR_rng x.ps [] false
      have hlsl := ho.ls
      have hrl := rem_le L x.r
      by_cases hb0 : 0 ≤ x.r.bad
      · have hb : ¬ x.r.bad < 0 := by omega
        by_cases hz : L.length = 0
        · rw [if_pos hz] at hN
          have hz' : ((L.length : Int) == 0) = true := by rw [beq_iff_eq]; omega
          try (simp [lk, hb])
          repeat (first | (refine sR ?_; simp [lk, hb]) | (refine sC ?_; simp [lk, hb]) | (refine sX ?_; simp only [AU, ↓reduceIte]))
          try (simp [lk, hb0, hz'])
          repeat (first | (refine sR ?_; simp [lk, hb0, hz']) | (refine sC ?_; simp [lk, hb0, hz']) | (refine sX ?_; simp only [AU, ↓reduceIte]))
          refine sT ?_
          try simp only [AU]
          refine ⟨by simp, sF hbox htok htk.old htk.le ?_⟩
          simp [packA, ← hN, prs]
        · rw [if_neg hz, if_pos hb0] at hN
          have hz' : ((L.length : Int) == 0) = false := by rw [beq_eq_false_iff_ne]; omega
          by_cases hge : (L.length : Int) ≤ x.r.bad
          · have hbl : badLine L x.r.bad = lineAt L (L.length - 1) := by unfold badLine; rw [if_neg (by omega)]
            have hli : lineAt L (L.length - 1) = L[L.length - 1].line := by simp [lineAt, show L.length - 1 < L.length by omega]
            rw [hbl, hli] at hN
            have hw : IntKind.i64.wrap ((L.length : Int) - 1) = (L.length : Int) - 1 := wrap_in (by omega) (by omega)
            have q1 : (0 : Int) ≤ (L.length : Int) - 1 := by omega
            have q2 : ((L.length : Int) - 1).toNat = L.length - 1 := by omega
            have q3 : L.length - 1 < L.length := by omega
            have q4 : (L.length : Int) - 1 < L.length := by omega
            try (simp [lk, hb])
            repeat (first | (refine sR ?_; simp [lk, hb]) | (refine sC ?_; simp [lk, hb]) | (refine sX ?_; simp only [AU, ↓reduceIte]))
            try (simp [lk, hb0, hz', hge, hw, q1, q2, q3, q4])
            repeat (first | (refine sR ?_; simp [lk, hb0, hz', hge, hw, q1, q2, q3, q4]) | (refine sC ?_; simp [lk, hb0, hz', hge, hw, q1, q2, q3, q4]) | (refine sX ?_; simp only [AU, ↓reduceIte]))
            refine ⟨by omega, ?_⟩
            try (simp [q1, q2, q3, q4])
            repeat (first | (refine sR ?_; simp [q1, q2, q3, q4]) | (refine sC ?_; simp [q1, q2, q3, q4]) | (refine sX ?_; simp only [AU, ↓reduceIte]))
            refine sT ?_
            try simp only [AU]
            refine ⟨by simp, sF hbox htok htk.old htk.le ?_⟩
            simp [packA, ← hN, prs]
          · have hbt : x.r.bad.toNat < L.length := by omega
            have hbl : badLine L x.r.bad = L[x.r.bad.toNat].line := by unfold badLine; rw [if_pos (by omega)]; simp [lineAt, hbt]
            have hlt' : x.r.bad < L.length := by omega
            rw [hbl] at hN
            try (simp [lk, hb])
            repeat (first | (refine sR ?_; simp [lk, hb]) | (refine sC ?_; simp [lk, hb]) | (refine sX ?_; simp only [AU, ↓reduceIte]))
            try (simp [lk, hb0, hz', hge, hbt, hlt'])
            repeat (first | (refine sR ?_; simp [lk, hb0, hz', hge, hbt, hlt']) | (refine sC ?_; simp [lk, hb0, hz', hge, hbt, hlt']) | (refine sX ?_; simp only [AU, ↓reduceIte]))
            refine sT ?_
            try simp only [AU]
            refine ⟨by simp, sF hbox htok htk.old htk.le ?_⟩
            simp [packA, ← hN, prs]
      · have hb : x.r.bad < 0 := by omega
        have h1 : ¬ x.r.at' < L.length := by omega
        have h2 : ¬ L.length = 0 := by omega
        rw [if_neg h2, if_neg hb0] at hN
        have h1' : ¬ (x.r.at' : Int) < L.length := by omega
        have h2' : ((L.length : Int) == 0) = false := by rw [beq_eq_false_iff_ne]; omega
        obtain ⟨F, hF⟩ : ∃ F, faultR x.ps [] false = F := ⟨_, rfl⟩
        rw [hF] at hN hfc hrg
        try (simp [lk, hb, h1', h2'])
        repeat (first | (refine sR ?_; simp [lk, hb, h1', h2']) | (refine sC ?_; simp [lk, hb, h1', h2']) | (refine sX ?_; simp only [AU, ↓reduceIte]))
        try (simp [lk, hb0])
        repeat (first | (refine sR ?_; simp [lk, hb0]) | (refine sC ?_; simp [lk, hb0]) | (refine sX ?_; simp only [AU, ↓reduceIte]))
        refine Stop.sub (args' := [prsAv x.ps, .d (rules46 []), B false]) ⟨fun _ _ _ h => h.asD, Sub.nil _ _ _, Sub.refl _, trivial⟩ ?_
        refine Stop.of_d (hfc _ _) ?_
        simp
        by_cases he2 : F.2 = 0
        · have b2 : (F.2 != 0) = false := by simp [he2]
          rw [if_neg (by simp [he2])] at hN
          try (simp [b2, lk])
          repeat (first | (refine sR ?_; simp [b2, lk]) | (refine sC ?_; simp [b2, lk]) | (refine sX ?_; simp only [AU, ↓reduceIte]))
          refine sT ?_
          try simp only [AU]
          refine ⟨by simp, sF hbox htok htk.old htk.le ?_⟩
          simp [packA, ← hN, prs]
        · have b2 : (F.2 != 0) = true := by simp [he2]
          rw [if_pos he2] at hN
          rcases hrg with hi | hi
          · have hi' : ¬ 0 ≤ F.1 := by omega
            rw [if_neg hi'] at hN
            try (simp [b2, hi', lk])
            repeat (first | (refine sR ?_; simp [b2, hi', lk]) | (refine sC ?_; simp [b2, hi', lk]) | (refine sX ?_; simp only [AU, ↓reduceIte]))
            refine sT ?_
            try simp only [AU]
            refine ⟨by simp, sF hbox htok htk.old htk.le ?_⟩
            simp [packA, ← hN, prs]
          · have hlq := hls hb
            have hil : F.1.toNat < ls.length := by rw [hlq]; omega
            have hil' : F.1 < ls.length := by omega
            have hgd : x.ls.getD F.1.toNat 0 = ls[F.1.toNat] := by rw [← hlq]; simp [List.getD_eq_getElem?_getD, hil]
            rw [if_pos hi.1, hgd] at hN
            try (simp [b2, hi.1, lk, hil, hil'])
            repeat (first | (refine sR ?_; simp [b2, hi.1, lk, hil, hil']) | (refine sC ?_; simp [b2, hi.1, lk, hil, hil']) | (refine sX ?_; simp only [AU, ↓reduceIte]))
            refine sT ?_
            try simp only [AU]
            refine ⟨by simp, sF hbox htok htk.old htk.le ?_⟩
            simp [packA, ← hN, prs]
  · rw [if_pos he] at hN
    have be : (K.2.2 != 0) = true := by simp [he]
    simp only [be]
    try (simp)
    repeat (first | (refine sR ?_; simp) | (refine sC ?_; simp) | (refine sX ?_; simp only [AU, ↓reduceIte]))
    refine sT ?_
    try simp only [AU]
    refine ⟨by simp, sF hbox htok (fun _ h => h) (Nat.le_refl _) ?_⟩
    simp [packA, ← hN, prs]
end Go.AM
namespace Go.AM
open Go Go.Proofs
abbrev RS.rowR (L : List Tk) (r : RS) : List AV := [.d (tks L), I (if r.bad < 0 then (r.at' : Int) else r.bad), B (decide (0 ≤ r.bad))]
def TkOk (L : List Tk) : Prop := ∀ t ∈ L, (1 ≤ t.kind ∧ t.kind ≤ 4) ∧ (t.kind = 2 → digB (byteAt t.text 0) = true)
theorem isAt_ref {L : List Tk} (hK : TkOk L) {s : ByteArray} (hs : digB (byteAt s 0) = false) {i : Nat} (h : i < L.length) : isAt L i s = (!decide (L[i].kind = 3) && decide (L[i].text = s)) := by
  rw [isAt_some h]
  obtain ⟨⟨k1, k2⟩, k3⟩ := hK L[i] (List.getElem_mem h)
  generalize L[i] = t at *
  by_cases e : t.text = s
  · have h2 : t.kind ≠ 2 := fun h2 => by
      have := k3 h2
      rw [e, hs] at this
      cases this
    rw [Bool.eq_iff_iff]
    simp [e]
    omega
  · simp [e]
set_option maxRecDepth 100000 in
theorem is46_c (L : List Tk) (hK : TkOk L) (r : RS) (h : r.Ok L) (s : ByteArray) (hs : digB (byteAt s 0) = false) (ks : Nat) (box : Nat → Option (List (List AV))) (hk : box ks = some [r.rowR L]) (nb : Nat) (tok : Nat → Bool) (nt : Nat) :
    ACalls Tryz.prog 86 [.ptr ks 0 0, Sb s] ⟨box, nb, tok, nt⟩ fun v m => v = B (peekB L r s) ∧ m = ⟨box, nb, tok, nt⟩ := by
  refine sB Tryz.func86 Tryz.ntmps86 ?_
  intro hbox htok
  simp only at hbox htok
  apply AL.start
  have kn := key_lt hbox hk
  by_cases hb : r.bad < 0
  · have hb0 : decide (0 ≤ r.bad) = false := by simp; omega
    by_cases hlt : r.at' < L.length
    · have hlt' : (r.at' : Int) < L.length := by omega
      have hp : peekB L r s = (!decide (L[r.at'].kind = 3) && decide (L[r.at'].text = s)) := by simp [peekB, hb, isAt_ref hK hs hlt]
      have hsq := seq_dec L[r.at'].text s
      by_cases e2 : L[r.at'].kind = 3
      · have b2 : (L[r.at'].kind != 3) = false := by simp [e2]
        try (simp [lb_out kn, hk, hb, hb0, hlt, hlt', b2])
        repeat (first | (refine sR ?_; simp [lb_out kn, hk, hb, hb0, hlt, hlt', b2]) | (refine sC ?_; simp [lb_out kn, hk, hb, hb0, hlt, hlt', b2]) | (refine sX ?_; simp only [AU, ↓reduceIte]))
        refine sT ?_
        try simp only [AU]
        refine ⟨by simp, sF hbox htok (fun _ h => h) (Nat.le_refl _) ?_⟩
        simp [packA, hp, e2]
      · have b2 : (L[r.at'].kind != 3) = true := by simp [e2]
        try (simp [lb_out kn, hk, hb, hb0, hlt, hlt', b2])
        repeat (first | (refine sR ?_; simp [lb_out kn, hk, hb, hb0, hlt, hlt', b2]) | (refine sC ?_; simp [lb_out kn, hk, hb, hb0, hlt, hlt', b2]) | (refine sX ?_; simp only [AU, ↓reduceIte]))
        refine sT ?_
        try simp only [AU]
        refine ⟨by simp, sF hbox htok (fun _ h => h) (Nat.le_refl _) ?_⟩
        simp [packA, hp, e2, hsq]
    · have hlt' : ¬ (r.at' : Int) < L.length := by omega
      have hp : peekB L r s = false := by simp [peekB, isAt_none hlt]
      try (simp [lb_out kn, hk, hb, hb0, hlt'])
      repeat (first | (refine sR ?_; simp [lb_out kn, hk, hb, hb0, hlt']) | (refine sC ?_; simp [lb_out kn, hk, hb, hb0, hlt']) | (refine sX ?_; simp only [AU, ↓reduceIte]))
      refine sT ?_
      try simp only [AU]
      refine ⟨by simp, sF hbox htok (fun _ h => h) (Nat.le_refl _) ?_⟩
      simp [packA, hp]
  · have hb0 : decide (0 ≤ r.bad) = true := by simp; omega
    have hp : peekB L r s = false := by simp [peekB, hb]
    try (simp [lb_out kn, hk, hb, hb0])
    repeat (first | (refine sR ?_; simp [lb_out kn, hk, hb, hb0]) | (refine sC ?_; simp [lb_out kn, hk, hb, hb0]) | (refine sX ?_; simp only [AU, ↓reduceIte]))
    refine sT ?_
    try simp only [AU]
    refine ⟨by simp, sF hbox htok (fun _ h => h) (Nat.le_refl _) ?_⟩
    simp [packA, hp]
set_option maxRecDepth 100000 in
theorem word46_c (L : List Tk) (hK : TkOk L) (r : RS) (h : r.Ok L) (hL : L.length ≤ 200000000000000) (s : ByteArray) (hs : digB (byteAt s 0) = false) (ks : Nat) (box : Nat → Option (List (List AV))) (hk : box ks = some [r.rowR L]) (nb : Nat) (tok : Nat → Bool) (nt : Nat) :
    ACalls Tryz.prog 50 [.ptr ks 0 0, Sb s] ⟨box, nb, tok, nt⟩ (QRd (.tup []) ((takeR L r s).rowR L) ks box nb tok nt) := by
  have hpk := is46_c L hK r h s hs ks
  have ha := h.a
  refine sB Tryz.func50 Tryz.ntmps50 ?_
  intro hbox htok
  simp only at hbox htok
  apply AL.start
  have kn := key_lt hbox hk
  try (simp)
  repeat (refine sR ?_; simp)
  refine Stop.of_a (hpk _ (by simp only; rw [lb_out kn]; exact hk) _ _ _) ?_
  rintro v m ⟨rfl, rfl⟩
  have hw : IntKind.i64.wrap ((r.at' : Int) + 1) = ((r.at' + 1 : Nat) : Int) := by rw [wrap_in (by omega) (by omega)]; rfl
  cases hp : peekB L r s
  · have ht : takeR L r s = failR r := by simp [takeR, hp]
    have hrow : (failR r).rowR L = [.d (tks L), I (if r.bad < 0 then (r.at' : Int) else r.bad), B true] := by
      unfold failR
      by_cases hb : r.bad < 0
      · rw [if_pos hb]
        simp [hb]
      · rw [if_neg hb]
        simp [hb]
        omega
    try (simp [lb_out kn, hk, upd_lb_out kn, upd_same])
    repeat (first | (refine sR ?_; simp [lb_out kn, hk, upd_lb_out kn, upd_same]) | (refine sC ?_; simp [lb_out kn, hk, upd_lb_out kn, upd_same]) | (refine sX ?_; simp only [AU, ↓reduceIte]))
    refine sE ?_
    refine ⟨by simp, (Fin.gen (vs := []) (av := .tup []) (tok' := tok) (nt' := nt) (by simp [resAs, resA]) (by rw [← upd_lb_out kn, hbox]) (Nat.le_refl _) (Nat.le_refl _) (fun t ht => ⟨ht, .inl rfl⟩) (outG (by simp)) (by simp [packA])).mono fun v m hq => ?_⟩
    exact ⟨hq.1, by rw [ht, hrow]; exact hq.2⟩
  · have ht : takeR L r s = ⟨r.at' + 1, r.bad⟩ := by simp [takeR, hp]
    have hb : r.bad < 0 := by unfold peekB at hp; simp only [Bool.and_eq_true, decide_eq_true_eq] at hp; exact hp.1
    try (simp [lb_out kn, hk, upd_lb_out kn, upd_same, hb, hw])
    repeat (first | (refine sR ?_; simp [lb_out kn, hk, upd_lb_out kn, upd_same, hb, hw]) | (refine sC ?_; simp [lb_out kn, hk, upd_lb_out kn, upd_same, hb, hw]) | (refine sX ?_; simp only [AU, ↓reduceIte]))
    refine sE ?_
    refine ⟨by simp, (Fin.gen (vs := []) (av := .tup []) (tok' := tok) (nt' := nt) (by simp [resAs, resA]) (by rw [← upd_lb_out kn, hbox]) (Nat.le_refl _) (Nat.le_refl _) (fun t ht => ⟨ht, .inl rfl⟩) (outG (by simp)) (by simp [packA])).mono fun v m hq => ?_⟩
    exact ⟨hq.1, by rw [ht]; simp only [RS.rowR, hb, if_true]; exact hq.2⟩
set_option maxRecDepth 100000 in
theorem take46_c (L : List Tk) (r : RS) (h : r.Ok L) (hL : L.length ≤ 200000000000000) (k : Int) (ks : Nat) (box : Nat → Option (List (List AV))) (hk : box ks = some [r.rowR L]) (nb : Nat) (tok : Nat → Bool) (nt : Nat) :
    ACalls Tryz.prog 51 [.ptr ks 0 0, I k] ⟨box, nb, tok, nt⟩ (QRd (Sb (kindR L r k).1) ((kindR L r k).2.rowR L) ks box nb tok nt) := by
  have ha := h.a
  have hrow : (failR r).rowR L = [.d (tks L), I (if r.bad < 0 then (r.at' : Int) else r.bad), B true] := by
    unfold failR
    by_cases hb : r.bad < 0
    · rw [if_pos hb]
      simp [hb]
    · rw [if_neg hb]
      simp [hb]
      omega
  refine sB Tryz.func51 Tryz.ntmps51 ?_
  intro hbox htok
  simp only at hbox htok
  apply AL.start
  have kn := key_lt hbox hk
  have hw : IntKind.i64.wrap ((r.at' : Int) + 1) = ((r.at' + 1 : Nat) : Int) := by rw [wrap_in (by omega) (by omega)]; rfl
  have hw2 : IntKind.i64.wrap (r.at' : Int) = (r.at' : Int) := wrap_in (by omega) (by omega)
  by_cases hb : r.bad < 0
  · have hb0 : decide (0 ≤ r.bad) = false := by simp; omega
    by_cases hlt : r.at' < L.length
    · have hlt' : ¬ (L.length : Int) ≤ r.at' := by omega
      have hlt2 : (r.at' : Int) < L.length := by omega
      have hp : kindB L r k = decide (L[r.at'].kind = k) := by simp [kindB, hb, kindAt_some hlt]
      by_cases e1 : L[r.at'].kind = k
      · have b1 : (L[r.at'].kind != k) = false := by simp [e1]
        have ht : kindR L r k = (L[r.at'].text, ⟨r.at' + 1, r.bad⟩) := by simp [kindR, hp, e1, textAt_some hlt]
        try (simp [lb_out kn, hk, hb, hb0, hlt, hlt', hlt2, b1, upd_lb_out kn, upd_same, hw, hw2])
        repeat (first | (refine sR ?_; simp [lb_out kn, hk, hb, hb0, hlt, hlt', hlt2, b1, upd_lb_out kn, upd_same, hw, hw2]) | (refine sC ?_; simp [lb_out kn, hk, hb, hb0, hlt, hlt', hlt2, b1, upd_lb_out kn, upd_same, hw, hw2]) | (refine sX ?_; simp only [AU, ↓reduceIte]))
        refine sT ?_
        try simp only [AU]
        refine ⟨by simp, (Fin.gen (av := Sb L[r.at'].text) (tok' := tok) (nt' := nt) (by simp [resAs, resA, lk]; rfl) (by rw [← upd_lb_out kn, hbox]) (Nat.le_refl _) (Nat.le_refl _) (fun t ht => ⟨ht, .inl rfl⟩) (outG (by simp)) (by simp [packA])).mono fun v m hq => ?_⟩
        exact ⟨by rw [ht]; exact hq.1, by rw [ht]; simp only [RS.rowR, hb, if_true, hb0]; exact hq.2⟩
      · have b1 : (L[r.at'].kind != k) = true := by simp [e1]
        have ht : kindR L r k = (⟨#[]⟩, failR r) := by simp [kindR, hp, e1]
        rw [if_pos hb] at hrow
        try (simp [lb_out kn, hk, hb, hb0, hlt, hlt', hlt2, b1, upd_lb_out kn, upd_same])
        repeat (first | (refine sR ?_; simp [lb_out kn, hk, hb, hb0, hlt, hlt', hlt2, b1, upd_lb_out kn, upd_same]) | (refine sC ?_; simp [lb_out kn, hk, hb, hb0, hlt, hlt', hlt2, b1, upd_lb_out kn, upd_same]) | (refine sX ?_; simp only [AU, ↓reduceIte]))
        refine sT ?_
        try simp only [AU]
        refine ⟨by simp, (Fin.gen (av := Sb ⟨#[]⟩) (tok' := tok) (nt' := nt) (by simp [resAs, resA, lk]; rfl) (by rw [← upd_lb_out kn, hbox]) (Nat.le_refl _) (Nat.le_refl _) (fun t ht => ⟨ht, .inl rfl⟩) (outG (by simp)) (by simp [packA])).mono fun v m hq => ?_⟩
        exact ⟨by rw [ht]; exact hq.1, by rw [ht, hrow]; exact hq.2⟩
    · have hlt' : (L.length : Int) ≤ r.at' := by omega
      have ht : kindR L r k = (⟨#[]⟩, failR r) := by simp [kindR, kindB, kindAt_none hlt]
      rw [if_pos hb] at hrow
      try (simp [lb_out kn, hk, hb, hb0, hlt', upd_lb_out kn, upd_same])
      repeat (first | (refine sR ?_; simp [lb_out kn, hk, hb, hb0, hlt', upd_lb_out kn, upd_same]) | (refine sC ?_; simp [lb_out kn, hk, hb, hb0, hlt', upd_lb_out kn, upd_same]) | (refine sX ?_; simp only [AU, ↓reduceIte]))
      refine sT ?_
      try simp only [AU]
      refine ⟨by simp, (Fin.gen (av := Sb ⟨#[]⟩) (tok' := tok) (nt' := nt) (by simp [resAs, resA, lk]; rfl) (by rw [← upd_lb_out kn, hbox]) (Nat.le_refl _) (Nat.le_refl _) (fun t ht => ⟨ht, .inl rfl⟩) (outG (by simp)) (by simp [packA])).mono fun v m hq => ?_⟩
      exact ⟨by rw [ht]; exact hq.1, by rw [ht, hrow]; exact hq.2⟩
  · have hb0 : decide (0 ≤ r.bad) = true := by simp; omega
    have ht : kindR L r k = (⟨#[]⟩, failR r) := by simp [kindR, kindB, hb]
    rw [if_neg hb] at hrow
    try (simp [lb_out kn, hk, hb, hb0, upd_lb_out kn, upd_same])
    repeat (first | (refine sR ?_; simp [lb_out kn, hk, hb, hb0, upd_lb_out kn, upd_same]) | (refine sC ?_; simp [lb_out kn, hk, hb, hb0, upd_lb_out kn, upd_same]) | (refine sX ?_; simp only [AU, ↓reduceIte]))
    refine sT ?_
    try simp only [AU]
    refine ⟨by simp, (Fin.gen (av := Sb ⟨#[]⟩) (tok' := tok) (nt' := nt) (by simp [resAs, resA, lk]; rfl) (by rw [← upd_lb_out kn, hbox]) (Nat.le_refl _) (Nat.le_refl _) (fun t ht => ⟨ht, .inl rfl⟩) (outG (by simp)) (by simp [packA])).mono fun v m hq => ?_⟩
    exact ⟨by rw [ht]; exact hq.1, by rw [ht, hrow]; exact hq.2⟩
end Go.AM
namespace Go.AM
open Go Go.Proofs
def PrdD (P : Program) (L : List Tk) (f : FuncId) (F : RS → Cm × RS) (n : Nat) : Prop := ∀ r : RS, r.Ok L → rem L r ≤ n → ∀ (ks : Nat) (box : Nat → Option (List (List AV))), box ks = some [r.rowR L] → ∀ (nb : Nat) (tok : Nat → Bool) (nt : Nat),
  ACalls P f [.ptr ks 0 0] ⟨box, nb, tok, nt⟩ (QRd (F r).1.av ((F r).2.rowR L) ks box nb tok nt)
def stBr (L : List Tk) (ks nb : Nat) (box : Nat → Option (List (List AV))) (x : AccR) : AState :=
  ⟨tl [(3, .osl 4 (x.l.map Cm.cells) x.own), (2, .ptr (nb + 2) 0 0), (0, .ptr ks 0 0)], lb nb (upd box ks (some [x.r.rowR L])) [(2, [zRow46])], x.tok, x.nt⟩
set_option maxRecDepth 100000 in
theorem braces_of (L : List Tk) (hK : TkOk L) (hL : L.length ≤ 1000000000) (C : RS → Cm × RS) (n : Nat) (hC : PrdD Tryz.prog L 87 C n) (hG : Goes L C) (hN : GoesN L C n) : PrdD Tryz.prog L 52 (blockR L C) (n + 1) := by
  intro r h hr ks box hk nb tok nt
  have t1 := word46_c L hK r h (by omega) sOp (by decide) ks
  have a1 := AdvS.take h sOp
  have hrem : rem L (takeR L r sOp) ≤ n := by
    by_cases hb : r.bad < 0
    · have := rem_advS a1 hb h; omega
    · rw [a1.bd (by omega)]; unfold rem; rw [if_neg hb]; omega
  have a2 := hG _ a1.ok
  have c1 := hC _ a1.ok hrem ks
  have hR : blockR L C r = (wrapC (restR L C (L.length + 1) (C (takeR L r sOp)).2 [(C (takeR L r sOp)).1]).1, takeR L (restR L C (L.length + 1) (C (takeR L r sOp)).2 [(C (takeR L r sOp)).1]).2 sCl) := rfl
  have hrem2 := rem_adv a2
  rw [hR]
  generalize takeR L r sOp = r1 at *
  obtain ⟨c0, r2, hc0⟩ : ∃ c0 r2, C r1 = (c0, r2) := ⟨_, _, rfl⟩
  rw [hc0] at c1 a2 hrem2 ⊢
  simp only at c1 a2 hrem2 ⊢
  obtain ⟨R, hRR⟩ : ∃ R, restR L C (L.length + 1) r2 [c0] = R := ⟨_, rfl⟩
  rw [hRR]
  have hrl : rem L r2 ≤ L.length + 1 := by unfold rem; split <;> omega
  refine sB Tryz.func52 Tryz.ntmps52 ?_
  intro hbox htok
  simp only at hbox htok
  apply AL.start
  have kn := key_lt hbox hk
  have ht0 := TK.start htok
  try (simp)
  repeat (first | (refine sR ?_; simp) | (refine sC ?_; simp) | (refine sX ?_; simp only [AU, ↓reduceIte]))
  refine Stop.of_a (t1 _ (by simp only; rw [lb_out kn]; exact hk) _ _ _) ?_
  rintro v m ⟨rfl, rfl⟩
  try (simp [upd_lb_out kn])
  repeat (first | (refine sR ?_; simp [upd_lb_out kn]) | (refine sC ?_; simp [upd_lb_out kn]) | (refine sX ?_; simp only [AU, ↓reduceIte]))
  refine Stop.of_a (c1 _ (by simp only; rw [lb_out kn, upd_same]) _ _ _) ?_
  rintro v m ⟨rfl, rfl⟩
  try (simp [upd_lb_out kn, upd_upd])
  repeat (first | (refine sR ?_; simp [upd_lb_out kn, upd_upd]) | (refine sC ?_; simp [upd_lb_out kn, upd_upd]) | (refine sX ?_; simp only [AU, ↓reduceIte]))
  refine sN ?_
  refine AL.loopT (stBr L ks nb box) (RInv L C n R tok nt) (fun x => x.f) ⟨r2, [c0], .full, tok, nt, L.length + 1⟩ (RInv.of a2.ok (by omega) hrl hRR (by simp; omega) (by simp) ht0.full)
    (Weaks.mk' (Nat.le_refl _) (by simp [ToL, lk, Cm.cells_eq]; exact to_ptr (by rw [lb_out kn, upd_same]; simp)) (by simp [BoxL, lk]) (outG (by simp))) ?_
  rintro ⟨r, l, own, tok1, nt1, f⟩ S hinv hS
  obtain ⟨ho, hn1, hf, he, hl, hg, htk⟩ := hinv
  simp only [stBr] at hS ho hn1 hf he hl hg htk ⊢
  subst hS
  have pk := is46_c L hK r ho sCl (by decide) ks
  have hd0 : decide (0 ≤ r.bad) = !decide (r.bad < 0) := by rw [Bool.eq_iff_iff]; simp
  by_cases hb : r.bad < 0
  · cases hp : peekB L r sCl
    · have c2 := hC r ho hn1 ks
      have a3 := hN r ho hn1 hb
      have hlt := rem_advS a3 hb ho
      obtain ⟨f, rfl⟩ : ∃ f', f = f' + 1 := ⟨f - 1, by omega⟩
      rw [restR, if_pos ⟨hb, hp⟩] at he
      obtain ⟨c3, r3, hc3⟩ : ∃ c3 r3, C r = (c3, r3) := ⟨_, _, rfl⟩
      rw [hc3] at c2 a3 hlt he
      simp only at c2 a3 hlt he
      try (simp [lb_out kn, upd_same, hd0, hb])
      repeat (first | (refine sR ?_; simp [lb_out kn, upd_same, hd0, hb]) | (refine sC ?_; simp [lb_out kn, upd_same, hd0, hb]) | (refine sX ?_; simp only [AU, ↓reduceIte]))
      refine Stop.of_a (pk _ (by simp only; rw [lb_out kn, upd_same]) _ _ _) ?_
      rintro v m ⟨rfl, rfl⟩
      try (simp [hp])
      repeat (first | (refine sR ?_; simp [hp]) | (refine sC ?_; simp [hp]) | (refine sX ?_; simp only [AU, ↓reduceIte]))
      refine Stop.of_a (c2 _ (by simp only; rw [lb_out kn, upd_same]) _ _ _) ?_
      rintro v m ⟨rfl, rfl⟩
      try (simp [upd_lb_out kn, upd_upd])
      repeat (first | (refine sR ?_; simp [upd_lb_out kn, upd_upd]) | (refine sC ?_; simp [upd_lb_out kn, upd_upd]) | (refine sX ?_; simp only [AU, ↓reduceIte]))
      refine ⟨⟨by omega, htk.live⟩, ?_⟩
      try (simp)
      repeat (first | (refine sR ?_; simp) | (refine sC ?_; simp) | (refine sX ?_; simp only [AU, ↓reduceIte]))
      refine sE ?_
      refine ⟨⟨r3, l ++ [c3], .tok nt1, upd (own.kill tok1) nt1 true, nt1 + 1, f⟩, RInv.of a3.ok (by omega) (by omega) he (by simp; omega) (by simp) htk.app, by simp only; omega, ?_⟩
      simp only [stBr]
      exact Weaks.mk' (by have := htk.le; omega) (by simp [ToL, lk, Cm.cells_eq]; exact to_ptr (by rw [lb_out kn, upd_same]; simp)) (by simp [BoxL, lk]) (outG (by simp))
    · have he2 : restR L C f r l = (l, r) := by
        cases f with
        | zero => rfl
        | succ f => rw [restR, if_neg (by simp [hp])]
      rw [he2] at he
      subst he
      have t2 := word46_c L hK r ho (by omega) sCl (by decide) ks
      try (simp [lb_out kn, upd_same, hd0, hb])
      repeat (first | (refine sR ?_; simp [lb_out kn, upd_same, hd0, hb]) | (refine sC ?_; simp [lb_out kn, upd_same, hd0, hb]) | (refine sX ?_; simp only [AU, ↓reduceIte]))
      refine Stop.of_a (pk _ (by simp only; rw [lb_out kn, upd_same]) _ _ _) ?_
      rintro v m ⟨rfl, rfl⟩
      try (simp [hp])
      repeat (first | (refine sR ?_; simp [hp]) | (refine sC ?_; simp [hp]) | (refine sX ?_; simp only [AU, ↓reduceIte]))
      refine Stop.of_a (t2 _ (by simp only; rw [lb_out kn, upd_same]) _ _ _) ?_
      rintro v m ⟨rfl, rfl⟩
      match l, hg with
      | [c], _ =>
        try (simp [upd_lb_out kn, upd_upd, Cm.cells_eq])
        repeat (first | (refine sR ?_; simp [upd_lb_out kn, upd_upd, Cm.cells_eq]) | (refine sC ?_; simp [upd_lb_out kn, upd_upd, Cm.cells_eq]) | (refine sX ?_; simp only [AU, ↓reduceIte]))
        refine sT ?_
        try simp only [AU]
        refine ⟨by simp, (Fin.gen (av := Cm.av c) (tok' := tok) (nt' := nt) (by simp [resAs, resA, lk]; rfl) (by rw [← upd_lb_out kn, hbox]) (Nat.le_refl _) htk.le (fun t ht => ⟨htk.old t ht, .inr (htok t ht)⟩) (outG (by simp)) (by simp [packA])).mono fun v m hq => ?_⟩
        exact hq
      | a :: b :: rest, _ =>
        have hb1 : (((rest.length : Int) + 1 + 1) == 1) = false := by rw [beq_eq_false_iff_ne]; omega
        try (simp [upd_lb_out kn, upd_upd, hb1])
        repeat (first | (refine sR ?_; simp [upd_lb_out kn, upd_upd, hb1]) | (refine sC ?_; simp [upd_lb_out kn, upd_upd, hb1]) | (refine sX ?_; simp only [AU, ↓reduceIte]))
        refine sT ?_
        try simp only [AU]
        refine ⟨by simp, (Fin.gen (av := Cm.av (.mk 2 ⟨#[]⟩ 0 (a :: b :: rest))) (tok' := tok) (nt' := nt) (by simp [resAs, resA, lk]; rfl) (by rw [← upd_lb_out kn, hbox]) (Nat.le_refl _) htk.le (fun t ht => ⟨htk.old t ht, .inr (htok t ht)⟩) (outG (by simp)) (by simp [packA, Cm.kind, Cm.name, Cm.num, Cm.kids, cms])).mono fun v m hq => ?_⟩
        exact hq
  · have he2 : restR L C f r l = (l, r) := by
      cases f with
      | zero => rfl
      | succ f => rw [restR, if_neg (by simp [hb])]
    rw [he2] at he
    subst he
    have t2 := word46_c L hK r ho (by omega) sCl (by decide) ks
    try (simp [lb_out kn, upd_same, hd0, hb])
    repeat (first | (refine sR ?_; simp [lb_out kn, upd_same, hd0, hb]) | (refine sC ?_; simp [lb_out kn, upd_same, hd0, hb]) | (refine sX ?_; simp only [AU, ↓reduceIte]))
    refine Stop.of_a (t2 _ (by simp only; rw [lb_out kn, upd_same]) _ _ _) ?_
    rintro v m ⟨rfl, rfl⟩
    match l, hg with
    | [c], _ =>
      try (simp [upd_lb_out kn, upd_upd, Cm.cells_eq])
      repeat (first | (refine sR ?_; simp [upd_lb_out kn, upd_upd, Cm.cells_eq]) | (refine sC ?_; simp [upd_lb_out kn, upd_upd, Cm.cells_eq]) | (refine sX ?_; simp only [AU, ↓reduceIte]))
      refine sT ?_
      try simp only [AU]
      refine ⟨by simp, (Fin.gen (av := Cm.av c) (tok' := tok) (nt' := nt) (by simp [resAs, resA, lk]; rfl) (by rw [← upd_lb_out kn, hbox]) (Nat.le_refl _) htk.le (fun t ht => ⟨htk.old t ht, .inr (htok t ht)⟩) (outG (by simp)) (by simp [packA])).mono fun v m hq => ?_⟩
      exact hq
    | a :: b :: rest, _ =>
      have hb1 : (((rest.length : Int) + 1 + 1) == 1) = false := by rw [beq_eq_false_iff_ne]; omega
      try (simp [upd_lb_out kn, upd_upd, hb1])
      repeat (first | (refine sR ?_; simp [upd_lb_out kn, upd_upd, hb1]) | (refine sC ?_; simp [upd_lb_out kn, upd_upd, hb1]) | (refine sX ?_; simp only [AU, ↓reduceIte]))
      refine sT ?_
      try simp only [AU]
      refine ⟨by simp, (Fin.gen (av := Cm.av (.mk 2 ⟨#[]⟩ 0 (a :: b :: rest))) (tok' := tok) (nt' := nt) (by simp [resAs, resA, lk]; rfl) (by rw [← upd_lb_out kn, hbox]) (Nat.le_refl _) htk.le (fun t ht => ⟨htk.old t ht, .inr (htok t ht)⟩) (outG (by simp)) (by simp [packA, Cm.kind, Cm.name, Cm.num, Cm.kids, cms])).mono fun v m hq => ?_⟩
      exact hq
end Go.AM
namespace Go.AM
open Go Go.Proofs
def stCr (L : List Tk) (ks nb : Nat) (box : Nat → Option (List (List AV))) (x : AccR) : AState :=
  ⟨tl [(3, .ptr (nb + 3) 0 0), (2, .ptr (nb + 2) 0 0), (0, .ptr ks 0 0)], lb nb (upd box ks (some [x.r.rowR L])) [(3, [[I 3, Sb ⟨#[]⟩, I 0, .osl 4 (x.l.map Cm.cells) x.own]]), (2, [zRow46])], x.tok, x.nt⟩
set_option maxRecDepth 100000 in
theorem command_ofR (L : List Tk) (hK : TkOk L) (hL : L.length ≤ 1000000000) (hT : ∀ t ∈ L, t.text.size ≤ 200000000000000) (B : RS → Cm × RS) (n : Nat) (hB : PrdD Tryz.prog L 52 B n) (hG : Goes L B) (hN : GoesN L B n) : PrdD Tryz.prog L 87 (cmdR L B) (n + 1) := by
  intro r h hr ks box hk nb tok nt
  have k1 := take46_c L r h (by omega) 1 ks
  have ak := AdvS.kind h 1
  have hRR : cmdR L B r = if r.bad < 0 then cmdS L B (kindR L r 1).1 (kindR L r 1).2 else (zC, r) := rfl
  have hkn : ¬ r.bad < 0 → kindR L r 1 = (⟨#[]⟩, r) := fun hb => by simp [kindR, kindB, failR, hb]
  obtain ⟨w, r1, hw⟩ : ∃ w r1, kindR L r 1 = (w, r1) := ⟨_, _, rfl⟩
  rw [hw] at k1 ak hRR hkn
  simp only at k1 ak hRR
  have hR : cmdR L B r = cmdS L B w r1 := by
    by_cases hb : r.bad < 0
    · rw [hRR, if_pos hb]
    · have := hkn hb
      injection this with h1 h2
      rw [hRR, if_neg hb, h1, h2]
      simp [cmdS, sApp, sCal, sSki, sFai, sLoo, sTry, sIf, sCho, sRep, hb]
  have hr1 : rem L r1 ≤ n := by
    by_cases hb : r.bad < 0
    · have := rem_advS ak hb h; omega
    · rw [ak.bd (by omega), rem_bad hb]; omega
  refine sB Tryz.func87 Tryz.ntmps87 ?_
  intro hbox htok
  simp only at hbox htok
  apply AL.start
  have kn := key_lt hbox hk
  try (simp)
  repeat (first | (refine sR ?_; simp) | (refine sC ?_; simp) | (refine sX ?_; simp only [AU, ↓reduceIte]))
  refine Stop.of_a (k1 _ (by simp only; rw [lb_out kn]; exact hk) _ _ _) ?_
  rintro v m ⟨rfl, rfl⟩
  try (simp [upd_lb_out kn])
  repeat (refine sR ?_; simp [upd_lb_out kn])
  have ho1 := ak.ok
  have ht0 := TK.start htok
  by_cases eApp : w = sApp
  · have fApp := wApp.2 eApp
    have hR2 : cmdR L B r = simpR L r1 1 true := by rw [hR]; simp [cmdS, eApp, sApp, sCal]
    have c1 := take46_c L r1 ho1 (by omega) 1 ks
    have a2 := AdvS.kind ho1 1
    have hS : simpR L r1 1 true = (.mk 1 (kindR L r1 1).1 0 [], takeR L (kindR L r1 1).2 sSem) := by simp [simpR]
    obtain ⟨w2, r2, hw2⟩ : ∃ w2 r2, kindR L r1 1 = (w2, r2) := ⟨_, _, rfl⟩
    rw [hw2] at c1 a2 hS
    simp only at c1 a2 hS
    have c2 := word46_c L hK r2 a2.ok (by omega) sSem (by decide) ks
    try (simp [fApp])
    repeat (first | (refine sR ?_; simp [fApp]) | (refine sC ?_; simp [fApp]) | (refine sX ?_; simp only [AU, ↓reduceIte]))
    refine Stop.of_a (c1 _ (by simp only; rw [lb_out kn, upd_same]) _ _ _) ?_
    rintro v m ⟨rfl, rfl⟩
    try (simp [upd_lb_out kn, upd_upd])
    repeat (first | (refine sR ?_; simp [upd_lb_out kn, upd_upd]) | (refine sC ?_; simp [upd_lb_out kn, upd_upd]) | (refine sX ?_; simp only [AU, ↓reduceIte]))
    refine Stop.of_a (c2 _ (by simp only; rw [lb_out kn, upd_same]) _ _ _) ?_
    rintro v m ⟨rfl, rfl⟩
    try (simp [upd_lb_out kn, upd_upd])
    repeat (first | (refine sR ?_; simp [upd_lb_out kn, upd_upd]) | (refine sC ?_; simp [upd_lb_out kn, upd_upd]) | (refine sX ?_; simp only [AU, ↓reduceIte]))
    rw [hR2, hS]
    refine sT ?_
    try simp only [AU]
    refine ⟨by simp, (Fin.gen (av := Cm.av (.mk 1 w2 0 [])) (tok' := tok) (nt' := nt) (by simp [resAs, resA, lk]; rfl) (by rw [← upd_lb_out kn, hbox]) (Nat.le_refl _) (Nat.le_refl _) (fun t ht => ⟨ht, .inl rfl⟩) (outG (by simp)) (by simp [packA, Cm.kind, Cm.name, Cm.num, Cm.kids, cms, Cm.cells_eq])).mono fun v m hq => ?_⟩
    exact hq
  · have gApp : ¬ w.toList = [97, 112, 112, 108, 121] := fun h => eApp (wApp.1 h)
    by_cases eCal : w = sCal
    · have fCal := wCal.2 eCal
      have hR2 : cmdR L B r = simpR L r1 10 true := by rw [hR]; simp [cmdS, eCal, sApp, sCal]
      have c1 := take46_c L r1 ho1 (by omega) 1 ks
      have a2 := AdvS.kind ho1 1
      have hS : simpR L r1 10 true = (.mk 10 (kindR L r1 1).1 0 [], takeR L (kindR L r1 1).2 sSem) := by simp [simpR]
      obtain ⟨w2, r2, hw2⟩ : ∃ w2 r2, kindR L r1 1 = (w2, r2) := ⟨_, _, rfl⟩
      rw [hw2] at c1 a2 hS
      simp only at c1 a2 hS
      have c2 := word46_c L hK r2 a2.ok (by omega) sSem (by decide) ks
      try (simp [fCal, gApp])
      repeat (first | (refine sR ?_; simp [fCal, gApp]) | (refine sC ?_; simp [fCal, gApp]) | (refine sX ?_; simp only [AU, ↓reduceIte]))
      refine Stop.of_a (c1 _ (by simp only; rw [lb_out kn, upd_same]) _ _ _) ?_
      rintro v m ⟨rfl, rfl⟩
      try (simp [upd_lb_out kn, upd_upd])
      repeat (first | (refine sR ?_; simp [upd_lb_out kn, upd_upd]) | (refine sC ?_; simp [upd_lb_out kn, upd_upd]) | (refine sX ?_; simp only [AU, ↓reduceIte]))
      refine Stop.of_a (c2 _ (by simp only; rw [lb_out kn, upd_same]) _ _ _) ?_
      rintro v m ⟨rfl, rfl⟩
      try (simp [upd_lb_out kn, upd_upd])
      repeat (first | (refine sR ?_; simp [upd_lb_out kn, upd_upd]) | (refine sC ?_; simp [upd_lb_out kn, upd_upd]) | (refine sX ?_; simp only [AU, ↓reduceIte]))
      rw [hR2, hS]
      refine sT ?_
      try simp only [AU]
      refine ⟨by simp, (Fin.gen (av := Cm.av (.mk 10 w2 0 [])) (tok' := tok) (nt' := nt) (by simp [resAs, resA, lk]; rfl) (by rw [← upd_lb_out kn, hbox]) (Nat.le_refl _) (Nat.le_refl _) (fun t ht => ⟨ht, .inl rfl⟩) (outG (by simp)) (by simp [packA, Cm.kind, Cm.name, Cm.num, Cm.kids, cms, Cm.cells_eq])).mono fun v m hq => ?_⟩
      exact hq
    · have gCal : ¬ w.toList = [99, 97, 108, 108] := fun h => eCal (wCal.1 h)
      by_cases eSki : w = sSki
      · have fSki := wSki.2 eSki
        have hR2 : cmdR L B r = (.mk 8 ⟨#[]⟩ 0 [], takeR L r1 sSem) := by rw [hR]; simp [cmdS, simpR, eSki, sApp, sCal, sSki, sFai]
        have c2 := word46_c L hK r1 ho1 (by omega) sSem (by decide) ks
        try (simp [fSki, gApp, gCal])
        repeat (first | (refine sR ?_; simp [fSki, gApp, gCal]) | (refine sC ?_; simp [fSki, gApp, gCal]) | (refine sX ?_; simp only [AU, ↓reduceIte]))
        refine Stop.of_a (c2 _ (by simp only; rw [lb_out kn, upd_same]) _ _ _) ?_
        rintro v m ⟨rfl, rfl⟩
        try (simp [upd_lb_out kn, upd_upd])
        repeat (first | (refine sR ?_; simp [upd_lb_out kn, upd_upd]) | (refine sC ?_; simp [upd_lb_out kn, upd_upd]) | (refine sX ?_; simp only [AU, ↓reduceIte]))
        rw [hR2]
        refine sT ?_
        try simp only [AU]
        refine ⟨by simp, (Fin.gen (av := Cm.av (.mk 8 ⟨#[]⟩ 0 [])) (tok' := tok) (nt' := nt) (by simp [resAs, resA, lk]; rfl) (by rw [← upd_lb_out kn, hbox]) (Nat.le_refl _) (Nat.le_refl _) (fun t ht => ⟨ht, .inl rfl⟩) (outG (by simp)) (by simp [packA, Cm.kind, Cm.name, Cm.num, Cm.kids, cms, Cm.cells_eq])).mono fun v m hq => ?_⟩
        exact hq
      · have gSki : ¬ w.toList = [115, 107, 105, 112] := fun h => eSki (wSki.1 h)
        by_cases eFai : w = sFai
        · have fFai := wFai.2 eFai
          have hR2 : cmdR L B r = (.mk 9 ⟨#[]⟩ 0 [], takeR L r1 sSem) := by rw [hR]; simp [cmdS, simpR, eFai, sApp, sCal, sSki, sFai]
          have c2 := word46_c L hK r1 ho1 (by omega) sSem (by decide) ks
          try (simp [fFai, gApp, gCal, gSki])
          repeat (first | (refine sR ?_; simp [fFai, gApp, gCal, gSki]) | (refine sC ?_; simp [fFai, gApp, gCal, gSki]) | (refine sX ?_; simp only [AU, ↓reduceIte]))
          refine Stop.of_a (c2 _ (by simp only; rw [lb_out kn, upd_same]) _ _ _) ?_
          rintro v m ⟨rfl, rfl⟩
          try (simp [upd_lb_out kn, upd_upd])
          repeat (first | (refine sR ?_; simp [upd_lb_out kn, upd_upd]) | (refine sC ?_; simp [upd_lb_out kn, upd_upd]) | (refine sX ?_; simp only [AU, ↓reduceIte]))
          rw [hR2]
          refine sT ?_
          try simp only [AU]
          refine ⟨by simp, (Fin.gen (av := Cm.av (.mk 9 ⟨#[]⟩ 0 [])) (tok' := tok) (nt' := nt) (by simp [resAs, resA, lk]; rfl) (by rw [← upd_lb_out kn, hbox]) (Nat.le_refl _) (Nat.le_refl _) (fun t ht => ⟨ht, .inl rfl⟩) (outG (by simp)) (by simp [packA, Cm.kind, Cm.name, Cm.num, Cm.kids, cms, Cm.cells_eq])).mono fun v m hq => ?_⟩
          exact hq
        · have gFai : ¬ w.toList = [102, 97, 105, 108] := fun h => eFai (wFai.1 h)
          by_cases eLoo : w = sLoo
          · have fLoo := wLoo.2 eLoo
            have hR2 : cmdR L B r = (.mk 5 ⟨#[]⟩ 0 [(B r1).1], (B r1).2) := by rw [hR]; simp [cmdS, asK, blocksR, blksR, eLoo, sApp, sCal, sSki, sFai, sLoo, sTry]
            have c2 := hB r1 ho1 (by omega) ks
            obtain ⟨c0, r2, hc0⟩ : ∃ c0 r2, B r1 = (c0, r2) := ⟨_, _, rfl⟩
            rw [hc0] at c2 hR2
            simp only at c2 hR2
            try (simp [fLoo, gApp, gCal, gSki, gFai])
            repeat (first | (refine sR ?_; simp [fLoo, gApp, gCal, gSki, gFai]) | (refine sC ?_; simp [fLoo, gApp, gCal, gSki, gFai]) | (refine sX ?_; simp only [AU, ↓reduceIte]))
            refine Stop.of_a (c2 _ (by simp only; rw [lb_out kn, upd_same]) _ _ _) ?_
            rintro v m ⟨rfl, rfl⟩
            try (simp [upd_lb_out kn, upd_upd])
            repeat (first | (refine sR ?_; simp [upd_lb_out kn, upd_upd]) | (refine sC ?_; simp [upd_lb_out kn, upd_upd]) | (refine sX ?_; simp only [AU, ↓reduceIte]))
            rw [hR2]
            refine sT ?_
            try simp only [AU]
            refine ⟨by simp, (Fin.gen (av := Cm.av (.mk 5 ⟨#[]⟩ 0 [c0])) (tok' := tok) (nt' := nt) (by simp [resAs, resA, lk]; rfl) (by rw [← upd_lb_out kn, hbox]) (Nat.le_refl _) (Nat.le_refl _) (fun t ht => ⟨ht, .inl rfl⟩) (outG (by simp)) (by simp [packA, Cm.kind, Cm.name, Cm.num, Cm.kids, cms, Cm.cells_eq])).mono fun v m hq => ?_⟩
            exact hq
          · have gLoo : ¬ w.toList = [108, 111, 111, 112] := fun h => eLoo (wLoo.1 h)
            by_cases eTry : w = sTry
            · have fTry := wTry.2 eTry
              have hR2 : cmdR L B r = (.mk 7 ⟨#[]⟩ 0 [(B r1).1], (B r1).2) := by rw [hR]; simp [cmdS, asK, blocksR, blksR, eTry, sApp, sCal, sSki, sFai, sLoo, sTry]
              have c2 := hB r1 ho1 (by omega) ks
              obtain ⟨c0, r2, hc0⟩ : ∃ c0 r2, B r1 = (c0, r2) := ⟨_, _, rfl⟩
              rw [hc0] at c2 hR2
              simp only at c2 hR2
              try (simp [fTry, gApp, gCal, gSki, gFai, gLoo])
              repeat (first | (refine sR ?_; simp [fTry, gApp, gCal, gSki, gFai, gLoo]) | (refine sC ?_; simp [fTry, gApp, gCal, gSki, gFai, gLoo]) | (refine sX ?_; simp only [AU, ↓reduceIte]))
              refine Stop.of_a (c2 _ (by simp only; rw [lb_out kn, upd_same]) _ _ _) ?_
              rintro v m ⟨rfl, rfl⟩
              try (simp [upd_lb_out kn, upd_upd])
              repeat (first | (refine sR ?_; simp [upd_lb_out kn, upd_upd]) | (refine sC ?_; simp [upd_lb_out kn, upd_upd]) | (refine sX ?_; simp only [AU, ↓reduceIte]))
              rw [hR2]
              refine sT ?_
              try simp only [AU]
              refine ⟨by simp, (Fin.gen (av := Cm.av (.mk 7 ⟨#[]⟩ 0 [c0])) (tok' := tok) (nt' := nt) (by simp [resAs, resA, lk]; rfl) (by rw [← upd_lb_out kn, hbox]) (Nat.le_refl _) (Nat.le_refl _) (fun t ht => ⟨ht, .inl rfl⟩) (outG (by simp)) (by simp [packA, Cm.kind, Cm.name, Cm.num, Cm.kids, cms, Cm.cells_eq])).mono fun v m hq => ?_⟩
              exact hq
            · have gTry : ¬ w.toList = [116, 114, 121] := fun h => eTry (wTry.1 h)
              by_cases eIf : w = sIf
              · have fIf := wIf.2 eIf
                have c1 := hB r1 ho1 (by omega) ks
                have a1 := hG r1 ho1
                have hm1 := rem_adv a1
                have hR2 : cmdR L B r = asK 4 0 (blocksR L B r1 [sThe, sEls]) := by rw [hR]; simp [cmdS, eIf, sApp, sCal, sSki, sFai, sLoo, sTry, sIf]
                obtain ⟨bq, hbq⟩ : ∃ bq, blocksR L B r1 [sThe, sEls] = bq := ⟨_, rfl⟩
                rw [hbq] at hR2
                simp only [blocksR, blksR, List.nil_append, List.cons_append] at hbq
                obtain ⟨d1, q1, hd1⟩ : ∃ d1 q1, B r1 = (d1, q1) := ⟨_, _, rfl⟩
                rw [hd1] at c1 a1 hm1
                simp only [hd1] at c1 a1 hm1 hbq
                have x1 := word46_c L hK q1 a1.ok (by omega) sThe (by decide) ks
                have y1 := AdvS.take a1.ok sThe
                have z1 := rem_adv y1.adv
                generalize takeR L q1 sThe = p1 at *
                have c2 := hB p1 y1.ok (by omega) ks
                have a2 := hG p1 y1.ok
                have hm2 := rem_adv a2
                obtain ⟨d2, q2, hd2⟩ : ∃ d q, B p1 = (d, q) := ⟨_, _, rfl⟩
                rw [hd2] at c2 a2 hm2
                simp only [hd2] at c2 a2 hm2 hbq
                have x2 := word46_c L hK q2 a2.ok (by omega) sEls (by decide) ks
                have y2 := AdvS.take a2.ok sEls
                have z2 := rem_adv y2.adv
                generalize takeR L q2 sEls = p2 at *
                have c3 := hB p2 y2.ok (by omega) ks
                have a3 := hG p2 y2.ok
                have hm3 := rem_adv a3
                obtain ⟨d3, q3, hd3⟩ : ∃ d q, B p2 = (d, q) := ⟨_, _, rfl⟩
                rw [hd3] at c3 a3 hm3
                simp only [hd3] at c3 a3 hm3 hbq
                try (simp [fIf, gApp, gCal, gSki, gFai, gLoo, gTry])
                repeat (first | (refine sR ?_; simp [fIf, gApp, gCal, gSki, gFai, gLoo, gTry]) | (refine sC ?_; simp [fIf, gApp, gCal, gSki, gFai, gLoo, gTry]) | (refine sX ?_; simp only [AU, ↓reduceIte]))
                refine Stop.of_a (c1 _ (by simp only; rw [lb_out kn, upd_same]) _ _ _) ?_
                rintro v m ⟨rfl, rfl⟩
                try (simp [upd_lb_out kn, upd_upd])
                repeat (first | (refine sR ?_; simp [upd_lb_out kn, upd_upd]) | (refine sC ?_; simp [upd_lb_out kn, upd_upd]) | (refine sX ?_; simp only [AU, ↓reduceIte]))
                have htk := ht0.full
                have hne3 : nb + 3 ≠ ks := by omega
                refine Stop.of_a (x1 _ (by simp only; rw [lb_out kn, upd_same]) _ _ _) ?_
                rintro v m ⟨rfl, rfl⟩
                simp [upd_lb_out kn, upd_upd]
                refine sN ?_
                refine AL.region3 follows_Tryz (Nat.le_refl _) (by kernel_rfl) (Side.of (by simp)) [(Operand.tmp 86, Operand.tmp 88)] (by kernel_rfl) ?_
                simp [lb_out kn, upd_lb_out kn, upd_same]
                refine StopW.of_w rfl rfl (by simp only; rw [lb_out kn, upd_same]; simp) (fun box' nb' hb' => (c2 box' (by rw [hb']; simp only; rw [lb_out kn, upd_same]) nb' _ _).mono fun v m1 hq => ⟨hq.1, hq.2⟩) ?_
                simp [lb_out kn, upd_lb_out kn, upd_same, upd_upd, NK, hne3]
                try (refine ⟨htk.live, ?_⟩)
                have htk := htk.app
                try (simp [upd_lb_out kn, upd_upd])
                repeat (first | (refine sR ?_; simp [upd_lb_out kn, upd_upd]) | (refine sC ?_; simp [upd_lb_out kn, upd_upd]) | (refine sX ?_; simp only [AU, ↓reduceIte]))
                refine Stop.of_a (x2 _ (by simp only; rw [lb_out kn, upd_same]) _ _ _) ?_
                rintro v m ⟨rfl, rfl⟩
                simp [upd_lb_out kn, upd_upd]
                refine sN ?_
                refine AL.region3 follows_Tryz (Nat.le_refl _) (by kernel_rfl) (Side.of (by simp)) [(Operand.tmp 95, Operand.tmp 97)] (by kernel_rfl) ?_
                simp [lb_out kn, upd_lb_out kn, upd_same]
                refine StopW.of_w rfl rfl (by simp only; rw [lb_out kn, upd_same]; simp) (fun box' nb' hb' => (c3 box' (by rw [hb']; simp only; rw [lb_out kn, upd_same]) nb' _ _).mono fun v m1 hq => ⟨hq.1, hq.2⟩) ?_
                simp [lb_out kn, upd_lb_out kn, upd_same, upd_upd, NK, hne3]
                try (refine ⟨htk.live, ?_⟩)
                have htk := htk.app
                try (simp [upd_lb_out kn, upd_upd])
                repeat (first | (refine sR ?_; simp [upd_lb_out kn, upd_upd]) | (refine sC ?_; simp [upd_lb_out kn, upd_upd]) | (refine sX ?_; simp only [AU, ↓reduceIte]))
                subst hbq
                rw [hR2]
                refine sT ?_
                try simp only [AU]
                have htk : TK tok nt (upd (upd tok nt false) (nt + 1) true) (nt + 1 + 1) [.tok (nt + 1)] := by
                  have h9 := htk
                  rw [← upd_upd tok nt true false]
                  exact h9
                refine ⟨by simp, (Fin.gen (av := Cm.av (.mk 4 ⟨#[]⟩ 0 [d1, d2, d3])) (tok' := tok) (nt' := nt) (by simp [resAs, resA, lk]; rfl) (by rw [← upd_lb_out kn, hbox]) (Nat.le_refl _) htk.le (fun t ht => ⟨htk.old t ht, .inr (htok t ht)⟩) (outG (by simp)) (by simp [packA, Cm.kind, Cm.name, Cm.num, Cm.kids, cms, Cm.cells_eq])).mono fun v m hq => ?_⟩
                exact hq
              · have gIf : ¬ w.toList = [105, 102] := fun h => eIf (wIf.1 h)
                by_cases eCho : w = sCho
                · have fCho := wCho.2 eCho
                  have c1 := hB r1 ho1 (by omega) ks
                  have a1 := hG r1 ho1
                  have hm1 := rem_adv a1
                  have hR2 : cmdR L B r = asK 3 0 (orsR L B (L.length + 1) (blocksR L B r1 [sOr]).2 (blocksR L B r1 [sOr]).1) := by rw [hR]; simp [cmdS, eCho, sApp, sCal, sSki, sFai, sLoo, sTry, sIf, sCho]
                  obtain ⟨bq, hbq⟩ : ∃ bq, blocksR L B r1 [sOr] = bq := ⟨_, rfl⟩
                  rw [hbq] at hR2
                  simp only [blocksR, blksR, List.nil_append, List.cons_append] at hbq
                  obtain ⟨d1, q1, hd1⟩ : ∃ d1 q1, B r1 = (d1, q1) := ⟨_, _, rfl⟩
                  rw [hd1] at c1 a1 hm1
                  simp only [hd1] at c1 a1 hm1 hbq
                  have x1 := word46_c L hK q1 a1.ok (by omega) sOr (by decide) ks
                  have y1 := AdvS.take a1.ok sOr
                  have z1 := rem_adv y1.adv
                  generalize takeR L q1 sOr = p1 at *
                  have c2 := hB p1 y1.ok (by omega) ks
                  have a2 := hG p1 y1.ok
                  have hm2 := rem_adv a2
                  obtain ⟨d2, q2, hd2⟩ : ∃ d q, B p1 = (d, q) := ⟨_, _, rfl⟩
                  rw [hd2] at c2 a2 hm2
                  simp only [hd2] at c2 a2 hm2 hbq
                  try (simp [fCho, gApp, gCal, gSki, gFai, gLoo, gTry, gIf])
                  repeat (first | (refine sR ?_; simp [fCho, gApp, gCal, gSki, gFai, gLoo, gTry, gIf]) | (refine sC ?_; simp [fCho, gApp, gCal, gSki, gFai, gLoo, gTry, gIf]) | (refine sX ?_; simp only [AU, ↓reduceIte]))
                  refine Stop.of_a (c1 _ (by simp only; rw [lb_out kn, upd_same]) _ _ _) ?_
                  rintro v m ⟨rfl, rfl⟩
                  try (simp [upd_lb_out kn, upd_upd])
                  repeat (first | (refine sR ?_; simp [upd_lb_out kn, upd_upd]) | (refine sC ?_; simp [upd_lb_out kn, upd_upd]) | (refine sX ?_; simp only [AU, ↓reduceIte]))
                  have htk := ht0.full
                  have hne3 : nb + 3 ≠ ks := by omega
                  refine Stop.of_a (x1 _ (by simp only; rw [lb_out kn, upd_same]) _ _ _) ?_
                  rintro v m ⟨rfl, rfl⟩
                  simp [upd_lb_out kn, upd_upd]
                  refine sN ?_
                  refine AL.region3 follows_Tryz (Nat.le_refl _) (by kernel_rfl) (Side.of (by simp)) [(Operand.tmp 111, Operand.tmp 113)] (by kernel_rfl) ?_
                  simp [lb_out kn, upd_lb_out kn, upd_same]
                  refine StopW.of_w rfl rfl (by simp only; rw [lb_out kn, upd_same]; simp) (fun box' nb' hb' => (c2 box' (by rw [hb']; simp only; rw [lb_out kn, upd_same]) nb' _ _).mono fun v m1 hq => ⟨hq.1, hq.2⟩) ?_
                  simp [lb_out kn, upd_lb_out kn, upd_same, upd_upd, NK, hne3]
                  try (refine ⟨htk.live, ?_⟩)
                  have htk := htk.app
                  subst hbq
                  obtain ⟨R, hRR2⟩ : ∃ R, orsR L B (L.length + 1) q2 [d1, d2] = R := ⟨_, rfl⟩
                  simp only [hRR2] at hR2
                  have hrl := rem_le L q2
                  rw [hR2]
                  refine sN ?_
                  refine AL.loopT (stCr L ks nb box) (OInv L B n R tok nt) (fun x => x.f) ⟨q2, [d1, d2], .tok nt, upd tok nt true, nt + 1, L.length + 1⟩ (OInv.of a2.ok (by omega) hrl hRR2 (by simp; omega) htk)
                    (Weaks.mk' htk.le (by simp [ToL, lk]; exact to_ptr (by rw [lb_out kn, upd_same]; simp)) (by simp [BoxL, lk, Cm.cells_eq]) (outG (by simp))) ?_
                  rintro ⟨r, l, own, tok1, nt1, f⟩ S hinv hS
                  obtain ⟨ho, hn1, hf, he, hlen, htk⟩ := hinv
                  simp only [stCr] at hS ho hn1 hf he hlen htk ⊢
                  subst hS
                  have pk := is46_c L hK r ho sOr (by decide) ks
                  cases hp : peekB L r sOr
                  · have he2 : orsR L B f r l = (l, r) := by
                      cases f with
                      | zero => rfl
                      | succ f => rw [orsR, if_neg (by simp [hp])]
                    rw [he2] at he
                    subst he
                    try (simp)
                    repeat (first | (refine sR ?_; simp) | (refine sC ?_; simp) | (refine sX ?_; simp only [AU, ↓reduceIte]))
                    refine Stop.of_a (pk _ (by simp only; rw [lb_out kn, upd_same]) _ _ _) ?_
                    rintro v m ⟨rfl, rfl⟩
                    try (simp [hp])
                    repeat (first | (refine sR ?_; simp [hp]) | (refine sC ?_; simp [hp]) | (refine sX ?_; simp only [AU, ↓reduceIte]))
                    refine sT ?_
                    try simp only [AU]
                    refine ⟨by simp, (Fin.gen (av := Cm.av (.mk 3 ⟨#[]⟩ 0 l)) (tok' := tok) (nt' := nt) (by simp [resAs, resA, lk]; rfl) (by rw [← upd_lb_out kn, hbox]) (Nat.le_refl _) htk.le (fun t ht => ⟨htk.old t ht, .inr (htok t ht)⟩) (outG (by simp)) (by simp [packA, Cm.kind, Cm.name, Cm.num, Cm.kids, cms])).mono fun v m hq => ?_⟩
                    exact hq
                  · have hpp := hp
                    unfold peekB at hpp
                    simp only [Bool.and_eq_true, decide_eq_true_eq] at hpp
                    have hpa := at_lt hpp.2
                    have hbb := hpp.1
                    have a3 : AdvS L r ⟨r.at' + 1, r.bad⟩ := by
                      have := AdvS.take ho sOr
                      unfold takeR at this
                      rw [if_pos hp] at this
                      exact this
                    have hlt := rem_advS a3 hpp.1 ho
                    obtain ⟨f, rfl⟩ : ∃ f', f = f' + 1 := ⟨f - 1, by omega⟩
                    rw [orsR, if_pos hp] at he
                    have hwr : IntKind.i64.wrap ((r.at' : Int) + 1) = ((r.at' + 1 : Nat) : Int) := by rw [wrap_in (by omega) (by omega)]; rfl
                    obtain ⟨r3, hr3⟩ : ∃ r3 : RS, (⟨r.at' + 1, r.bad⟩ : RS) = r3 := ⟨_, rfl⟩
                    have c2 := hB r3 (by rw [← hr3]; exact a3.ok) (by rw [← hr3]; omega) ks
                    have a4 := hG r3 (by rw [← hr3]; exact a3.ok)
                    have hr4 := rem_adv a4
                    rw [hr3] at he hlt
                    obtain ⟨c3, r4, hc3⟩ : ∃ c3 r4, B r3 = (c3, r4) := ⟨_, _, rfl⟩
                    rw [hc3] at c2 a4 hr4 he
                    simp only at c2 a4 hr4 he
                    have hrr : [AV.d (tks L), I ((r.at' + 1 : Nat) : Int), AM.B (decide (0 ≤ r.bad))] = r3.rowR L := by rw [← hr3]; simp only [RS.rowR, if_pos hbb]
                    try (simp)
                    repeat (first | (refine sR ?_; simp) | (refine sC ?_; simp) | (refine sX ?_; simp only [AU, ↓reduceIte]))
                    refine Stop.of_a (pk _ (by simp only; rw [lb_out kn, upd_same]) _ _ _) ?_
                    rintro v m ⟨rfl, rfl⟩
                    simp [hp]
                    refine sC ?_
                    simp
                    refine sR ?_
                    simp [lb_out kn, upd_lb_out kn, upd_same, upd_upd, hbb, hwr]
                    refine sN ?_
                    refine AL.region3 follows_Tryz (Nat.le_refl _) (by kernel_rfl) (Side.of (by simp)) [(Operand.tmp 127, Operand.tmp 129)] (by kernel_rfl) ?_
                    simp [lb_out kn, upd_lb_out kn, upd_same]
                    refine StopW.of_w rfl rfl (by simp only; rw [lb_out kn, upd_same]; simp) (fun box' nb' hb' => (c2 box' (by rw [hb']; simp only; rw [lb_out kn, upd_same]; exact congrArg (fun x => some [x]) hrr) nb' tok1 nt1).mono fun v m1 hq => ⟨hq.1, hq.2⟩) ?_
                    simp [lb_out kn, upd_lb_out kn, upd_same, upd_upd, NK, hne3]
                    refine ⟨⟨by omega, htk.live⟩, ?_⟩
                    try (simp)
                    repeat (first | (refine sR ?_; simp) | (refine sC ?_; simp) | (refine sX ?_; simp only [AU, ↓reduceIte]))
                    refine sE ?_
                    refine ⟨⟨r4, l ++ [c3], .tok nt1, upd (own.kill tok1) nt1 true, nt1 + 1, f⟩, OInv.of a4.ok (by omega) (by omega) he (by simp; omega) htk.app, by simp only; omega, ?_⟩
                    simp only [stCr]
                    exact Weaks.mk' (by have := htk.le; omega) (by simp [ToL, lk]; exact to_ptr (by rw [lb_out kn, upd_same]; simp)) (by simp [BoxL, lk, Cm.cells_eq]) (outG (by simp))
                · have gCho : ¬ w.toList = [99, 104, 111, 111, 115, 101] := fun h => eCho (wCho.1 h)
                  by_cases eRep : w = sRep
                  · have fRep := wRep.2 eRep
                    have hR2 : cmdR L B r = (.mk 6 ⟨#[]⟩ (numR (kindR L r1 2).1) [(B (kindR L r1 2).2).1], (B (kindR L r1 2).2).2) := by rw [hR]; simp [cmdS, asK, blocksR, blksR, eRep, sApp, sCal, sSki, sFai, sLoo, sTry, sIf, sCho, sRep]
                    have c1 := take46_c L r1 ho1 (by omega) 2 ks
                    have a2 := AdvS.kind ho1 2
                    have hr2 := rem_adv a2.adv
                    have hsz : (kindR L r1 2).1.size ≤ 200000000000000 := kind_size hT r1 2
                    obtain ⟨w2, r2, hl⟩ : ∃ w2 r2, kindR L r1 2 = (w2, r2) := ⟨_, _, rfl⟩
                    rw [hl] at c1 a2 hr2 hsz hR2
                    simp only at c1 a2 hr2 hsz hR2
                    have c2 := number01_c w2 hsz
                    have c3 := hB r2 a2.ok (by omega) ks
                    obtain ⟨c0, r3, hc0⟩ : ∃ c0 r3, B r2 = (c0, r3) := ⟨_, _, rfl⟩
                    rw [hc0] at c3 hR2
                    simp only at c3 hR2
                    try (simp [fRep, gApp, gCal, gSki, gFai, gLoo, gTry, gIf, gCho])
                    repeat (first | (refine sR ?_; simp [fRep, gApp, gCal, gSki, gFai, gLoo, gTry, gIf, gCho]) | (refine sC ?_; simp [fRep, gApp, gCal, gSki, gFai, gLoo, gTry, gIf, gCho]) | (refine sX ?_; simp only [AU, ↓reduceIte]))
                    refine Stop.of_a (c1 _ (by simp only; rw [lb_out kn, upd_same]) _ _ _) ?_
                    rintro v m ⟨rfl, rfl⟩
                    try (simp [upd_lb_out kn, upd_upd])
                    repeat (first | (refine sR ?_; simp [upd_lb_out kn, upd_upd]) | (refine sC ?_; simp [upd_lb_out kn, upd_upd]) | (refine sX ?_; simp only [AU, ↓reduceIte]))
                    refine Stop.of_d (c2 _ _) ?_
                    simp
                    try (simp)
                    repeat (first | (refine sR ?_; simp) | (refine sC ?_; simp) | (refine sX ?_; simp only [AU, ↓reduceIte]))
                    refine Stop.of_a (c3 _ (by simp only; rw [lb_out kn, upd_same]) _ _ _) ?_
                    rintro v m ⟨rfl, rfl⟩
                    try (simp [upd_lb_out kn, upd_upd])
                    repeat (first | (refine sR ?_; simp [upd_lb_out kn, upd_upd]) | (refine sC ?_; simp [upd_lb_out kn, upd_upd]) | (refine sX ?_; simp only [AU, ↓reduceIte]))
                    rw [hR2]
                    refine sT ?_
                    try simp only [AU]
                    refine ⟨by simp, (Fin.gen (av := Cm.av (.mk 6 ⟨#[]⟩ (numR w2) [c0])) (tok' := tok) (nt' := nt) (by simp [resAs, resA, lk]; rfl) (by rw [← upd_lb_out kn, hbox]) (Nat.le_refl _) (Nat.le_refl _) (fun t ht => ⟨ht, .inl rfl⟩) (outG (by simp)) (by simp [packA, Cm.kind, Cm.name, Cm.num, Cm.kids, cms, Cm.cells_eq])).mono fun v m hq => ?_⟩
                    exact hq
                  · have gRep : ¬ w.toList = [114, 101, 112, 101, 97, 116] := fun h => eRep (wRep.1 h)
                    have hR2 : cmdR L B r = (zC, if r1.bad < 0 then ⟨r1.at', r1.at' - 1⟩ else r1) := by rw [hR]; simp [cmdS, eApp, eCal, eSki, eFai, eLoo, eTry, eIf, eCho, eRep]
                    by_cases hb1 : r1.bad < 0
                    · rw [if_pos hb1] at hR2
                      have hd0 : decide (0 ≤ r1.bad) = false := by simp; omega
                      have hlt := ak.lt hb1
                      have ha1 := ho1.a
                      have hwr : IntKind.i64.wrap ((r1.at' : Int) - 1) = (r1.at' : Int) - 1 := wrap_in (by omega) (by omega)
                      have hn1 : ¬ (r1.at' : Int) - 1 < 0 := by omega
                      have hn2 : (0 : Int) ≤ (r1.at' : Int) - 1 := by omega
                      try (simp [gApp, gCal, gSki, gFai, gLoo, gTry, gIf, gCho, gRep, lb_out kn, upd_lb_out kn, upd_same, upd_upd, hb1, hd0, hwr])
                      repeat (first | (refine sR ?_; simp [gApp, gCal, gSki, gFai, gLoo, gTry, gIf, gCho, gRep, lb_out kn, upd_lb_out kn, upd_same, upd_upd, hb1, hd0, hwr]) | (refine sC ?_; simp [gApp, gCal, gSki, gFai, gLoo, gTry, gIf, gCho, gRep, lb_out kn, upd_lb_out kn, upd_same, upd_upd, hb1, hd0, hwr]) | (refine sX ?_; simp only [AU, ↓reduceIte]))
                      rw [hR2]
                      refine sT ?_
                      try simp only [AU]
                      refine ⟨by simp, (Fin.gen (av := Cm.av zC) (tok' := tok) (nt' := nt) (by simp [resAs, resA, lk]; rfl) (by rw [← upd_lb_out kn, hbox]) (Nat.le_refl _) (Nat.le_refl _) (fun t ht => ⟨ht, .inl rfl⟩) (outG (by simp)) (by simp [packA, zC, Cm.kind, Cm.name, Cm.num, Cm.kids, cms])).mono fun v m hq => ?_⟩
                      exact ⟨hq.1, by simp only [RS.rowR, if_neg hn1, hn2, decide_true]; exact hq.2⟩
                    · rw [if_neg hb1] at hR2
                      have hd0 : decide (0 ≤ r1.bad) = true := by simp; omega
                      try (simp [gApp, gCal, gSki, gFai, gLoo, gTry, gIf, gCho, gRep, lb_out kn, upd_lb_out kn, upd_same, upd_upd, hb1, hd0])
                      repeat (first | (refine sR ?_; simp [gApp, gCal, gSki, gFai, gLoo, gTry, gIf, gCho, gRep, lb_out kn, upd_lb_out kn, upd_same, upd_upd, hb1, hd0]) | (refine sC ?_; simp [gApp, gCal, gSki, gFai, gLoo, gTry, gIf, gCho, gRep, lb_out kn, upd_lb_out kn, upd_same, upd_upd, hb1, hd0]) | (refine sX ?_; simp only [AU, ↓reduceIte]))
                      rw [hR2]
                      refine sT ?_
                      try simp only [AU]
                      refine ⟨by simp, (Fin.gen (av := Cm.av zC) (tok' := tok) (nt' := nt) (by simp [resAs, resA, lk]; rfl) (by rw [← upd_lb_out kn, hbox]) (Nat.le_refl _) (Nat.le_refl _) (fun t ht => ⟨ht, .inl rfl⟩) (outG (by simp)) (by simp [packA, zC, Cm.kind, Cm.name, Cm.num, Cm.kids, cms])).mono fun v m hq => ?_⟩
                      exact hq
end Go.AM
namespace Go.AM
open Go Go.Proofs
def stRA (s : ByteArray) (a : Nat) (d : Bool) (nb : Nat) (box : Nat → Option (List (List AV))) (tok : Nat → Bool) (nt : Nat) (i : Nat) : AState := ⟨tl [(0, Sb s), (1, I a), (2, B d), (7, I i)], lb nb box [], tok, nt⟩
set_option maxRecDepth 100000 in
theorem runA_c (s : ByteArray) (a : Nat) (d : Bool) (ha : a ≤ s.size) (hs : s.size ≤ 200000000000000) (tok : Nat → Bool) (nt : Nat) : DCall Tryz.prog 130 [Sb s, I a, B d] tok nt (I (runN (pd d) s a)) tok nt := by
  intro box nb
  have hl := letter01_c
  have hd := digit01_c
  refine sB Tryz.func130 Tryz.ntmps130 ?_
  intro hbox htok
  simp only at hbox htok
  apply AL.start
  try (simp)
  repeat (refine sR ?_; simp)
  refine sN ?_
  refine AL.loopT (stRA s a d nb box tok nt) (fun i => a + i ≤ s.size ∧ ∀ j, j < i → pd d (byteAt s (a + j)) = true) (fun i => s.size - i) 0 ⟨ha, by omega⟩ (Weaks.mk (Nat.le_refl _) rfl (by simp [ToL, lk]) trivial) ?_
  rintro i S' ⟨hi, hok⟩ hS
  simp only [stRA] at hS
  subst hS
  have hw := sW (i := i) (by omega)
  have hwi : IntKind.i64.wrap ((a : Int) + i) = ((a + i : Nat) : Int) := by rw [wrap_in (by omega) (by omega)]; rfl
  by_cases hlt : a + i < s.size
  · have hbb := byteAt_lt hlt
    have hlt2 : (a : Int) + i < s.size := by omega
    have hlt3 : (0 : Int) ≤ a + i := by omega
    have ht : ((a : Int) + i).toNat = a + i := by omega
    have hr := fun h => runN_eq (p := pd d) (s := s) (a := a) (i := i) (by omega) (fun j hj => hok j hj) (.inr h)
    have hok2 : pd d (byteAt s (a + i)) = true → ∀ j, j < i + 1 → pd d (byteAt s (a + j)) = true := fun h j hj => by
      by_cases e : j = i
      · rw [e]; exact h
      · exact hok j (by omega)
    have hd := hd (byteAt s (a + i))
    have hl := hl (byteAt s (a + i))
    try (simp [hlt, hwi, hlt2, hlt3, ht])
    repeat (refine sR ?_; simp [hlt, hwi, hlt2, hlt3, ht])
    rw [hbb]
    cases ed : digB (byteAt s (a + i))
    · rw [ed] at hd
      cases d
      · cases el : letB (byteAt s (a + i))
        · rw [el] at hl
          cases eu : (byteAt s (a + i) == 95)
          · have hr := hr (by simp [pd, ed, el, eu])
            refine Stop.of_d (hd _ _) ?_
            simp
            try (simp [hlt, hwi, hlt2, hlt3, ht])
            repeat (first | (refine sR ?_; simp [hlt, hwi, hlt2, hlt3, ht]) | (refine sC ?_; simp [hlt, hwi, hlt2, hlt3, ht]) | (refine sX ?_; simp only [AU, ↓reduceIte]))
            rw [hbb]
            refine Stop.of_d (hl _ _) ?_
            simp
            try (simp [hlt, hwi, hlt2, hlt3, ht])
            repeat (refine sR ?_; simp [hlt, hwi, hlt2, hlt3, ht])
            rw [hbb]
            try (simp [eu])
            repeat (refine sR ?_; simp [eu])
            refine sC ?_
            simp
            refine sX ?_
            simp only [AU, ↓reduceIte]
            try (simp)
            repeat (refine sR ?_; simp)
            refine sT ?_
            try simp only [AU]
            refine ⟨by simp, sF hbox htok (fun _ h => h) (Nat.le_refl _) ?_⟩
            simp [packA, hr]
          · have hv := hok2 (by simp [pd, ed, el, eu])
            refine Stop.of_d (hd _ _) ?_
            simp
            try (simp [hlt, hwi, hlt2, hlt3, ht])
            repeat (first | (refine sR ?_; simp [hlt, hwi, hlt2, hlt3, ht]) | (refine sC ?_; simp [hlt, hwi, hlt2, hlt3, ht]) | (refine sX ?_; simp only [AU, ↓reduceIte]))
            rw [hbb]
            refine Stop.of_d (hl _ _) ?_
            simp
            try (simp [hlt, hwi, hlt2, hlt3, ht])
            repeat (refine sR ?_; simp [hlt, hwi, hlt2, hlt3, ht])
            rw [hbb]
            try (simp [eu])
            repeat (refine sR ?_; simp [eu])
            refine sC ?_
            simp
            try (simp [hw])
            repeat (refine sR ?_; simp [hw])
            refine sE ?_
            exact ⟨i + 1, ⟨by omega, hv⟩, by omega, Weaks.mk (Nat.le_refl _) rfl (by simp [ToL, lk]) trivial⟩
        · rw [el] at hl
          have hv := hok2 (by simp [pd, ed, el])
          refine Stop.of_d (hd _ _) ?_
          simp
          try (simp [hlt, hwi, hlt2, hlt3, ht])
          repeat (first | (refine sR ?_; simp [hlt, hwi, hlt2, hlt3, ht]) | (refine sC ?_; simp [hlt, hwi, hlt2, hlt3, ht]) | (refine sX ?_; simp only [AU, ↓reduceIte]))
          rw [hbb]
          refine Stop.of_d (hl _ _) ?_
          simp
          try (simp)
          repeat (refine sR ?_; simp)
          refine sC ?_
          simp
          try (simp [hw])
          repeat (refine sR ?_; simp [hw])
          refine sE ?_
          exact ⟨i + 1, ⟨by omega, hv⟩, by omega, Weaks.mk (Nat.le_refl _) rfl (by simp [ToL, lk]) trivial⟩
      · have hr := hr (by simp [pd, ed])
        refine Stop.of_d (hd _ _) ?_
        simp
        try (simp)
        repeat (refine sR ?_; simp)
        refine sC ?_
        simp
        refine sX ?_
        simp only [AU, ↓reduceIte]
        try (simp)
        repeat (refine sR ?_; simp)
        refine sT ?_
        try simp only [AU]
        refine ⟨by simp, sF hbox htok (fun _ h => h) (Nat.le_refl _) ?_⟩
        simp [packA, hr]
    · rw [ed] at hd
      have hv := hok2 (by simp [pd, ed])
      refine Stop.of_d (hd _ _) ?_
      simp
      try (simp)
      repeat (refine sR ?_; simp)
      refine sC ?_
      simp
      try (simp [hw])
      repeat (refine sR ?_; simp [hw])
      refine sE ?_
      exact ⟨i + 1, ⟨by omega, hv⟩, by omega, Weaks.mk (Nat.le_refl _) rfl (by simp [ToL, lk]) trivial⟩
  · have hie : a + i = s.size := by omega
    have hlt2 : ¬ (a : Int) + i < s.size := by omega
    have hr := runN_eq (p := pd d) (s := s) (a := a) (i := i) (by omega) (fun j hj => hok j hj) (.inl (by omega))
    try (simp [hwi, hlt2])
    repeat (refine sR ?_; simp [hwi, hlt2])
    refine sC ?_
    simp
    refine sX ?_
    simp only [AU, ↓reduceIte]
    try (simp)
    repeat (refine sR ?_; simp)
    refine sT ?_
    try simp only [AU]
    refine ⟨by simp, sF hbox htok (fun _ h => h) (Nat.le_refl _) ?_⟩
    simp [packA, hr]
def stQA (s : ByteArray) (a : Nat) (nb : Nat) (box : Nat → Option (List (List AV))) (tok : Nat → Bool) (nt : Nat) (i : Nat) : AState := ⟨tl [(0, Sb s), (1, I a), (5, I i)], lb nb box [], tok, nt⟩
set_option maxRecDepth 100000 in
theorem quotedA_c (s : ByteArray) (a : Nat) (ha : a < s.size) (hs : s.size ≤ 200000000000000) (tok : Nat → Bool) (nt : Nat) : DCall Tryz.prog 131 [Sb s, I a] tok nt (I (quoT (dropB s a) 1)) tok nt := by
  intro box nb
  have hds := dropB_size s a
  refine sB Tryz.func131 Tryz.ntmps131 ?_
  intro hbox htok
  simp only at hbox htok
  apply AL.start
  try (simp)
  repeat (refine sR ?_; simp)
  refine sN ?_
  refine AL.loopT (stQA s a nb box tok nt) (fun i => 1 ≤ i ∧ i ≤ s.size - a ∧ quoT (dropB s a) 1 = quoT (dropB s a) i) (fun i => s.size - i) 1 ⟨Nat.le_refl _, by omega, rfl⟩ (Weaks.mk (Nat.le_refl _) rfl (by simp [ToL, lk]) trivial) ?_
  rintro i S' ⟨h1, hi, hq⟩ hS
  simp only [stQA] at hS
  subst hS
  have hw := sW (i := i) (by omega)
  have hwi : IntKind.i64.wrap ((a : Int) + i) = ((a + i : Nat) : Int) := by rw [wrap_in (by omega) (by omega)]; rfl
  have hbd := byteAt_drop s a i
  by_cases hlt : a + i < s.size
  · have hbb := byteAt_lt hlt
    have hlt2 : (a : Int) + i < s.size := by omega
    have hlt3 : (0 : Int) ≤ a + i := by omega
    have ht : ((a : Int) + i).toNat = a + i := by omega
    have hlt4 : i < (dropB s a).size := by omega
    try (simp [hlt, hwi, hlt2, hlt3, ht])
    repeat (refine sR ?_; simp [hlt, hwi, hlt2, hlt3, ht])
    refine sC ?_
    simp
    try (simp [hlt, hwi, hlt2, hlt3, ht])
    repeat (refine sR ?_; simp [hlt, hwi, hlt2, hlt3, ht])
    rw [hbb]
    by_cases e1 : byteAt s (a + i) = 34
    · have hr := quoT_q hlt4 (hbd.trans e1)
      try (simp [e1, hw])
      repeat (first | (refine sR ?_; simp [e1, hw]) | (refine sC ?_; simp [e1, hw]) | (refine sX ?_; simp only [AU, ↓reduceIte]))
      refine sT ?_
      try simp only [AU]
      refine ⟨by simp, sF hbox htok (fun _ h => h) (Nat.le_refl _) ?_⟩
      simp [packA, hq, hr]
    · have b1 : (byteAt s (a + i) == 34) = false := by simp [e1]
      by_cases e2 : byteAt s (a + i) < 32
      · have hr := quoT_bad hlt4 (by rw [hbd]; exact e1) (.inl (by rw [hbd]; exact e2))
        try (simp [b1, e2])
        repeat (first | (refine sR ?_; simp [b1, e2]) | (refine sC ?_; simp [b1, e2]) | (refine sX ?_; simp only [AU, ↓reduceIte]))
        refine sT ?_
        try simp only [AU]
        refine ⟨by simp, sF hbox htok (fun _ h => h) (Nat.le_refl _) ?_⟩
        simp [packA, hq, hr]
      · by_cases e3 : 126 < byteAt s (a + i)
        · have hr := quoT_bad hlt4 (by rw [hbd]; exact e1) (.inr (by rw [hbd]; exact e3))
          try (simp [b1, e2, e3])
          repeat (first | (refine sR ?_; simp [b1, e2, e3]) | (refine sC ?_; simp [b1, e2, e3]) | (refine sX ?_; simp only [AU, ↓reduceIte]))
          refine sT ?_
          try simp only [AU]
          refine ⟨by simp, sF hbox htok (fun _ h => h) (Nat.le_refl _) ?_⟩
          simp [packA, hq, hr]
        · have hr := quoT_go hlt4 (by rw [hbd]; exact e1) (by rw [hbd]; omega)
          try (simp [b1, e2, e3, hw])
          repeat (first | (refine sR ?_; simp [b1, e2, e3, hw]) | (refine sC ?_; simp [b1, e2, e3, hw]) | (refine sX ?_; simp only [AU, ↓reduceIte]))
          refine sE ?_
          exact ⟨i + 1, ⟨by omega, by omega, hq.trans hr⟩, by omega, Weaks.mk (Nat.le_refl _) rfl (by simp [ToL, lk]) trivial⟩
  · have hlt2 : ¬ (a : Int) + i < s.size := by omega
    have hr := quoT_end (s := dropB s a) (n := i) (by omega)
    try (simp [hwi, hlt2])
    repeat (refine sR ?_; simp [hwi, hlt2])
    refine sC ?_
    simp
    refine sX ?_
    simp only [AU, ↓reduceIte]
    try (simp)
    repeat (refine sR ?_; simp)
    refine sT ?_
    try simp only [AU]
    refine ⟨by simp, sF hbox htok (fun _ h => h) (Nat.le_refl _) ?_⟩
    simp [packA, hq, hr]
theorem oneR_drop (s : ByteArray) (a : Nat) : oneR (dropB s a) =
  (if letB (byteAt s a) = true ∨ digB (byteAt s a) = true then
    (if (if digB (byteAt s a) = true then 9 else 20) < runN (pd (digB (byteAt s a))) s a then (0, ⟨#[]⟩, 0, 3)
     else (if digB (byteAt s a) = true then 2 else 1, s.extract a (a + runN (pd (digB (byteAt s a))) s a), runN (pd (digB (byteAt s a))) s a, 0))
  else if byteAt s a = 34 then (if quoT (dropB s a) 1 = 0 then (0, ⟨#[]⟩, 0, 2) else if 60 < quoT (dropB s a) 1 - 2 then (0, ⟨#[]⟩, 0, 3) else (3, s.extract (a + 1) (a + ((quoT (dropB s a) 1).toNat - 1)), quoT (dropB s a) 1, 0))
  else sgnT (dropB s a) signL : Int × ByteArray × Int × Int) := by
  unfold oneR
  rw [byteAt_drop, runN_drop, cut_drop, cut_drop, Nat.add_zero]
def stSA (s : ByteArray) (a : Nat) (L : List ByteArray) (nb : Nat) (box : Nat → Option (List (List AV))) (tok : Nat → Bool) (nt : Nat) (i : Nat) : AState :=
  ⟨tl [(13, I i), (12, .d (strs L)), (4, .ptr (nb + 4) 0 0), (0, Sb s), (1, I a)], lb nb box [(4, [[I 0, Sb ⟨#[]⟩, I 0]])], tok, nt⟩
set_option maxRecDepth 100000 in
theorem oneA_c (s : ByteArray) (a : Nat) (h0 : a < s.size) (hs : s.size ≤ 200000000000000) (tok : Nat → Bool) (nt : Nat) :
    DCall Tryz.prog 85 [Sb s, I a] tok nt (.tup [.agg [I (oneR (dropB s a)).1, Sb (oneR (dropB s a)).2.1, I 0], I (oneR (dropB s a)).2.2.1, I (oneR (dropB s a)).2.2.2]) tok nt := by
  intro box nb
  obtain ⟨N, hN⟩ : ∃ N, oneR (dropB s a) = N := ⟨_, rfl⟩
  rw [hN]
  rw [oneR_drop] at hN
  have hds := dropB_size s a
  have hl := letter01_c (byteAt s a)
  have hd := digit01_c (byteAt s a)
  have hr := fun d => runA_c s a d (by omega) hs
  have hq := quotedA_c s a h0 hs
  have hqr := quoT_rng (dropB s a) _ 1 rfl (Nat.le_refl _)
  have hsg := signs01_c
  have h0' : (a : Int) < s.size := by omega
  have hb := byteAt_lt h0
  have hrl : runN (pd (digB (byteAt s a))) s a ≤ s.size - a := runN_le _ _ _
  cases ed : digB (byteAt s a)
  · rw [ed] at hd hrl hN
    cases el : letB (byteAt s a)
    · rw [el] at hl hN
      rw [if_neg (by simp)] at hN
      refine sB Tryz.func85 Tryz.ntmps85 ?_
      intro hbox htok
      simp only at hbox htok
      apply AL.start
      try (simp [h0, h0'])
      repeat (refine sR ?_; simp [h0, h0'])
      rw [hb]
      refine Stop.of_d (hl _ _) ?_
      simp
      try (simp)
      repeat (refine sR ?_; simp)
      refine Stop.of_d (hd _ _) ?_
      simp
      try (simp)
      repeat (refine sR ?_; simp)
      refine sC ?_
      simp
      by_cases e3 : byteAt s a = 34
      · rw [if_pos e3] at hN
        have b3 : (byteAt s a == 34) = true := by simp [e3]
        generalize quoT (dropB s a) 1 = q at *
        try (simp [b3])
        repeat (first | (refine sR ?_; simp [b3]) | (refine sC ?_; simp [b3]) | (refine sX ?_; simp only [AU, ↓reduceIte]))
        refine Stop.of_d (hq _ _) ?_
        simp
        by_cases q0 : q = 0
        · have b4 : (q == 0) = true := by simp [q0]
          rw [if_pos q0] at hN
          try (simp [b4])
          repeat (first | (refine sR ?_; simp [b4]) | (refine sC ?_; simp [b4]) | (refine sX ?_; simp only [AU, ↓reduceIte]))
          refine sT ?_
          try simp only [AU]
          refine ⟨by simp, sF hbox htok (fun _ h => h) (Nat.le_refl _) ?_⟩
          simp [packA, ← hN]
        · have b4 : (q == 0) = false := by simp [q0]
          obtain ⟨q1, q2⟩ := hqr.resolve_left q0
          rw [if_neg q0] at hN
          have w1 : IntKind.i64.wrap (q - 2) = q - 2 := wrap_in (by omega) (by omega)
          have w2 : IntKind.i64.wrap ((a : Int) + q) = a + q := wrap_in (by omega) (by omega)
          have w3 : IntKind.i64.wrap ((a : Int) + q - 1) = a + q - 1 := wrap_in (by omega) (by omega)
          have w4 : IntKind.i64.wrap ((a : Int) + 1) = a + 1 := wrap_in (by omega) (by omega)
          by_cases q3 : 60 < q - 2
          · rw [if_pos q3] at hN
            try (simp [b4, w1, q3])
            repeat (first | (refine sR ?_; simp [b4, w1, q3]) | (refine sC ?_; simp [b4, w1, q3]) | (refine sX ?_; simp only [AU, ↓reduceIte]))
            refine sT ?_
            try simp only [AU]
            refine ⟨by simp, sF hbox htok (fun _ h => h) (Nat.le_refl _) ?_⟩
            simp [packA, ← hN]
          · rw [if_neg q3] at hN
            have q4 : (a : Int) + 1 ≤ a + q - 1 := by omega
            have q5 : (a : Int) + q - 1 ≤ s.size := by omega
            have q6 : a + 1 ≤ a + (q.toNat - 1) := by omega
            have q7 : a + (q.toNat - 1) ≤ s.size := by omega
            have q8 : (0 : Int) ≤ a + 1 := by omega
            have q9 : (0 : Int) ≤ a + q - 1 := by omega
            have t1 : ((a : Int) + 1).toNat = a + 1 := by omega
            have t2 : ((a : Int) + q - 1).toNat = a + (q.toNat - 1) := by omega
            try (simp [b4, w1, q3, w2, w3, w4, q4, q5, q6, q7, q8, q9, t1, t2])
            repeat (first | (refine sR ?_; simp [b4, w1, q3, w2, w3, w4, q4, q5, q6, q7, q8, q9, t1, t2]) | (refine sC ?_; simp [b4, w1, q3, w2, w3, w4, q4, q5, q6, q7, q8, q9, t1, t2]) | (refine sX ?_; simp only [AU, ↓reduceIte]))
            refine ⟨by omega, ?_⟩
            try (simp)
            repeat (refine sR ?_; simp)
            refine sT ?_
            try simp only [AU]
            refine ⟨by simp, sF hbox htok (fun _ h => h) (Nat.le_refl _) ?_⟩
            simp [packA, ← hN]
      · rw [if_neg e3] at hN
        have b3 : (byteAt s a == 34) = false := by simp [e3]
        try (simp [b3])
        repeat (first | (refine sR ?_; simp [b3]) | (refine sC ?_; simp [b3]) | (refine sX ?_; simp only [AU, ↓reduceIte]))
        refine Stop.of_d (hsg _ _) ?_
        simp
        try (simp)
        repeat (refine sR ?_; simp)
        refine sN ?_
        refine AL.loopT (stSA s a signL nb box tok nt) (fun i => i ≤ signL.length ∧ sgnT (dropB s a) signL = sgnT (dropB s a) (signL.drop i)) (fun i => signL.length - i) 0 ⟨Nat.zero_le _, rfl⟩ (Weaks.mk (Nat.le_refl _) rfl (by simp [ToL, lk]) (by simp [BoxL, lk])) ?_
        rintro i S' ⟨hi, hsq⟩ hS
        simp only [stSA] at hS
        subst hS
        have hlen : signL.length ≤ 1000 := by decide
        have hmax : ∀ x ∈ signL, x.size ≤ 2 := by decide
        generalize signL = L at *
        have hw := sW (i := i) (by omega)
        try (simp)
        repeat (refine sR ?_; simp)
        refine sC ?_
        simp
        refine ⟨fun hlt => ?_, fun hge => ?_⟩
        · have hx := hmax _ (List.getElem_mem hlt)
          have hdr : L.drop i = L[i] :: L.drop (i + 1) := List.drop_eq_getElem_cons hlt
          have hwx : IntKind.i64.wrap ((a : Int) + (L[i].size : Int)) = ((a + L[i].size : Nat) : Int) := by rw [wrap_in (by omega) (by omega)]; rfl
          have hce : (dropB s a).extract 0 L[i].size = s.extract a (a + L[i].size) := cut_drop s a 0 _
          rw [hdr, sgnT_cons, hce] at hsq
          by_cases c1 : a + L[i].size ≤ s.size
          · have c1' : (a : Int) + (L[i].size : Int) ≤ s.size := by omega
            have c0 : (0 : Int) ≤ (a : Int) + (L[i].size : Int) := by omega
            have ct : ((a : Int) + (L[i].size : Int)).toNat = a + L[i].size := by omega
            have cl : (a : Int) ≤ (a : Int) + (L[i].size : Int) := by omega
            by_cases c2 : s.extract a (a + L[i].size) = L[i]
            · have b2 : ((s.extract a (a + L[i].size)).toList == L[i].toList) = true := by rw [seq_dec]; simp [c2]
              rw [if_pos ⟨by omega, c2⟩] at hsq
              try (simp [hlt, hwx, c0, ct, cl, c1, c1', b2])
              repeat (refine sR ?_; simp [hlt, hwx, c0, ct, cl, c1, c1', b2])
              refine sC ?_
              simp
              refine sN ?_
              refine AL.region2 follows_Tryz (Nat.le_refl _) (by kernel_rfl) (Side.of (by simp)) ?_
              simp [hlt]
              refine sT ?_
              try simp only [AU]
              refine ⟨by simp, sF hbox htok (fun _ h => h) (Nat.le_refl _) ?_⟩
              simp [packA, hsq, ← hN]
            · have b2 : ((s.extract a (a + L[i].size)).toList == L[i].toList) = false := by rw [seq_dec]; simp [c2]
              rw [if_neg fun h => c2 h.2] at hsq
              try (simp [hlt, hwx, c0, ct, cl, c1, c1', b2])
              repeat (refine sR ?_; simp [hlt, hwx, c0, ct, cl, c1, c1', b2])
              refine sC ?_
              simp
              try (simp [hw])
              repeat (refine sR ?_; simp [hw])
              refine sE ?_
              exact ⟨i + 1, ⟨hlt, hsq⟩, by omega, Weaks.mk (Nat.le_refl _) rfl (by simp [ToL, lk]) (by simp [BoxL, lk])⟩
          · have c1' : ¬ (a : Int) + (L[i].size : Int) ≤ s.size := by omega
            rw [if_neg fun h => by have := h.1; omega] at hsq
            try (simp [hlt, hwx, c1'])
            repeat (refine sR ?_; simp [hlt, hwx, c1'])
            refine sC ?_
            simp
            try (simp [hw])
            repeat (refine sR ?_; simp [hw])
            refine sE ?_
            exact ⟨i + 1, ⟨hlt, hsq⟩, by omega, Weaks.mk (Nat.le_refl _) rfl (by simp [ToL, lk]) (by simp [BoxL, lk])⟩
        · refine sX ?_
          simp only [AU, ↓reduceIte]
          try (simp)
          repeat (refine sR ?_; simp)
          have hie : i = L.length := by omega
          rw [hie, List.drop_length] at hsq
          refine sT ?_
          try simp only [AU]
          refine ⟨by simp, sF hbox htok (fun _ h => h) (Nat.le_refl _) ?_⟩
          simp [packA, ← hN, hsq, sgnT]
    · rw [el] at hl hN
      rw [if_pos (by simp)] at hN
      have hr := hr false
      generalize runN (pd false) s a = n at *
      refine sB Tryz.func85 Tryz.ntmps85 ?_
      intro hbox htok
      simp only at hbox htok
      apply AL.start
      try (simp [h0, h0'])
      repeat (refine sR ?_; simp [h0, h0'])
      rw [hb]
      refine Stop.of_d (hl _ _) ?_
      simp
      try (simp)
      repeat (first | (refine sR ?_; simp) | (refine sC ?_; simp) | (refine sX ?_; simp only [AU, ↓reduceIte]))
      refine Stop.of_d (hd _ _) ?_
      simp
      try (simp)
      repeat (first | (refine sR ?_; simp) | (refine sC ?_; simp) | (refine sX ?_; simp only [AU, ↓reduceIte]))
      refine Stop.of_d (hr _ _) ?_
      simp
      try (simp)
      repeat (first | (refine sR ?_; simp) | (refine sC ?_; simp) | (refine sX ?_; simp only [AU, ↓reduceIte]))
      refine Stop.of_d (hd _ _) ?_
      simp
      try (simp)
      repeat (refine sR ?_; simp)
      refine sC ?_
      simp
      try (simp)
      repeat (refine sR ?_; simp)
      simp only [Bool.false_eq_true, if_false] at hN
      by_cases e3 : 20 < n
      · have e4 : (20 : Int) < n := by omega
        rw [if_pos e3] at hN
        try (simp [e4])
        repeat (first | (refine sR ?_; simp [e4]) | (refine sC ?_; simp [e4]) | (refine sX ?_; simp only [AU, ↓reduceIte]))
        refine sT ?_
        try simp only [AU]
        refine ⟨by simp, sF hbox htok (fun _ h => h) (Nat.le_refl _) ?_⟩
        simp [packA, ← hN]
      · have e4 : ¬ (20 : Int) < n := by omega
        rw [if_neg e3] at hN
        have hwn : IntKind.i64.wrap ((a : Int) + n) = ((a + n : Nat) : Int) := by rw [wrap_in (by omega) (by omega)]; rfl
        have hns : (a : Int) + n ≤ s.size := by omega
        have hns2 : a + n ≤ s.size := by omega
        have hn0 : (0 : Int) ≤ (a : Int) + n := by omega
        have hnl : (a : Int) ≤ (a : Int) + n := by omega
        have hnt : ((a : Int) + n).toNat = a + n := by omega
        try (simp [e4, hwn, hns, hns2, hn0, hnl, hnt])
        repeat (first | (refine sR ?_; simp [e4, hwn, hns, hns2, hn0, hnl, hnt]) | (refine sC ?_; simp [e4, hwn, hns, hns2, hn0, hnl, hnt]) | (refine sX ?_; simp only [AU, ↓reduceIte]))
        refine sT ?_
        try simp only [AU]
        refine ⟨by simp, sF hbox htok (fun _ h => h) (Nat.le_refl _) ?_⟩
        simp [packA, ← hN]
  · rw [ed] at hd hrl hN
    have el : letB (byteAt s a) = false := by
      have := ed
      unfold digB at this
      unfold letB
      simp only [decide_eq_true_eq, decide_eq_false_iff_not] at this ⊢
      omega
    rw [el] at hl
    rw [if_pos (by simp)] at hN
    have hr := hr true
    generalize runN (pd true) s a = n at *
    refine sB Tryz.func85 Tryz.ntmps85 ?_
    intro hbox htok
    simp only at hbox htok
    apply AL.start
    try (simp [h0, h0'])
    repeat (refine sR ?_; simp [h0, h0'])
    rw [hb]
    refine Stop.of_d (hl _ _) ?_
    simp
    try (simp)
    repeat (first | (refine sR ?_; simp) | (refine sC ?_; simp) | (refine sX ?_; simp only [AU, ↓reduceIte]))
    refine Stop.of_d (hd _ _) ?_
    simp
    try (simp)
    repeat (first | (refine sR ?_; simp) | (refine sC ?_; simp) | (refine sX ?_; simp only [AU, ↓reduceIte]))
    refine Stop.of_d (hd _ _) ?_
    simp
    try (simp)
    repeat (first | (refine sR ?_; simp) | (refine sC ?_; simp) | (refine sX ?_; simp only [AU, ↓reduceIte]))
    refine Stop.of_d (hr _ _) ?_
    simp
    try (simp)
    repeat (first | (refine sR ?_; simp) | (refine sC ?_; simp) | (refine sX ?_; simp only [AU, ↓reduceIte]))
    refine Stop.of_d (hd _ _) ?_
    simp
    try (simp)
    repeat (refine sR ?_; simp)
    refine sC ?_
    simp
    try (simp)
    repeat (refine sR ?_; simp)
    simp only [if_true] at hN
    by_cases e3 : 9 < n
    · have e4 : (9 : Int) < n := by omega
      rw [if_pos e3] at hN
      try (simp [e4])
      repeat (first | (refine sR ?_; simp [e4]) | (refine sC ?_; simp [e4]) | (refine sX ?_; simp only [AU, ↓reduceIte]))
      refine sT ?_
      try simp only [AU]
      refine ⟨by simp, sF hbox htok (fun _ h => h) (Nat.le_refl _) ?_⟩
      simp [packA, ← hN]
    · have e4 : ¬ (9 : Int) < n := by omega
      rw [if_neg e3] at hN
      have hwn : IntKind.i64.wrap ((a : Int) + n) = ((a + n : Nat) : Int) := by rw [wrap_in (by omega) (by omega)]; rfl
      have hns : (a : Int) + n ≤ s.size := by omega
      have hns2 : a + n ≤ s.size := by omega
      have hn0 : (0 : Int) ≤ (a : Int) + n := by omega
      have hnl : (a : Int) ≤ (a : Int) + n := by omega
      have hnt : ((a : Int) + n).toNat = a + n := by omega
      try (simp [e4, hwn, hns, hns2, hn0, hnl, hnt])
      repeat (first | (refine sR ?_; simp [e4, hwn, hns, hns2, hn0, hnl, hnt]) | (refine sC ?_; simp [e4, hwn, hns, hns2, hn0, hnl, hnt]) | (refine sX ?_; simp only [AU, ↓reduceIte]))
      refine sT ?_
      try simp only [AU]
      refine ⟨by simp, sF hbox htok (fun _ h => h) (Nat.le_refl _) ?_⟩
      simp [packA, ← hN]
end Go.AM
namespace Go.AM
open Go Go.Proofs
theorem white01_c (c : Int) (tok : Nat → Bool) (nt : Nat) : DCall Tryz.prog 84 [Ub c] tok nt (B (decide (c = 10) || whiB c)) tok nt := by
  intro box nb
  by_cases h1 : c = 32
  · refine sB Tryz.func84 Tryz.ntmps84 ?_
    intro hbox htok
    simp only at hbox htok
    apply AL.start
    try (simp [h1])
    repeat (refine sR ?_; simp [h1])
    refine sT ?_
    try simp only [AU]
    refine ⟨by simp, sF hbox htok (fun _ h => h) (Nat.le_refl _) ?_⟩
    simp [packA, whiB, h1]
  · have b1 : (c == 32) = false := by simp [h1]
    by_cases h2 : c = 9
    · refine sB Tryz.func84 Tryz.ntmps84 ?_
      intro hbox htok
      simp only at hbox htok
      apply AL.start
      try (simp [b1, h2])
      repeat (refine sR ?_; simp [b1, h2])
      refine sT ?_
      try simp only [AU]
      refine ⟨by simp, sF hbox htok (fun _ h => h) (Nat.le_refl _) ?_⟩
      simp [packA, whiB, h2]
    · have b2 : (c == 9) = false := by simp [h2]
      by_cases h3 : c = 13
      · refine sB Tryz.func84 Tryz.ntmps84 ?_
        intro hbox htok
        simp only at hbox htok
        apply AL.start
        try (simp [b1, b2, h3])
        repeat (refine sR ?_; simp [b1, b2, h3])
        refine sT ?_
        try simp only [AU]
        refine ⟨by simp, sF hbox htok (fun _ h => h) (Nat.le_refl _) ?_⟩
        simp [packA, whiB, h3]
      · have b3 : (c == 13) = false := by simp [h3]
        refine sB Tryz.func84 Tryz.ntmps84 ?_
        intro hbox htok
        simp only at hbox htok
        apply AL.start
        try (simp [b1, b2, b3])
        repeat (refine sR ?_; simp [b1, b2, b3])
        refine sT ?_
        try simp only [AU]
        refine ⟨by simp, sF hbox htok (fun _ h => h) (Nat.le_refl _) ?_⟩
        simp [packA, whiB, h1, h2, h3, beqD]
structure AccU where
  a : Nat
  line : Int
  out : List Tk
  own : Own
  tok : Nat → Bool
  nt : Nat
  f : Nat
structure UkInv (s : ByteArray) (R : List Tk × Int × Int) (mtok : Nat → Bool) (nt0 : Nat) (x : AccU) : Prop where
  a : x.a ≤ s.size
  f : s.size - x.a ≤ x.f
  l0 : 0 ≤ x.line
  l1 : x.line ≤ 1 + x.a
  n : x.out.length ≤ 4000
  r : toksF x.f (dropB s x.a) x.line x.out = R
  k : TK mtok nt0 x.tok x.nt [x.own]
theorem UkInv.of {s : ByteArray} {R : List Tk × Int × Int} {mtok : Nat → Bool} {nt0 : Nat} {a : Nat} {line : Int} {out : List Tk} {own : Own} {tok : Nat → Bool} {nt f : Nat} (h1 : a ≤ s.size) (h2 : s.size - a ≤ f) (h3 : 0 ≤ line) (h4 : line ≤ 1 + a) (h5 : out.length ≤ 4000)
    (h6 : toksF f (dropB s a) line out = R) (h7 : TK mtok nt0 tok nt [own]) : UkInv s R mtok nt0 ⟨a, line, out, own, tok, nt, f⟩ := ⟨h1, h2, h3, h4, h5, h6, h7⟩
def stTu (s : ByteArray) (nb : Nat) (box : Nat → Option (List (List AV))) (x : AccU) : AState :=
  ⟨tl [(0, Sb s), (5, .osl 3 (x.out.map Tk.cells) x.own), (6, I x.line), (7, I x.a)], lb nb box [], x.tok, x.nt⟩
def stTi (s : ByteArray) (x : AccU) (nb : Nat) (box : Nat → Option (List (List AV))) (i : Nat) : AState :=
  ⟨tl [(0, Sb s), (5, .osl 3 (x.out.map Tk.cells) x.own), (6, I x.line), (7, I i)], lb nb box [], x.tok, x.nt⟩
set_option maxRecDepth 100000 in
theorem tokens01_c (s : ByteArray) (hs : s.size ≤ 200000000000000) (tok : Nat → Bool) (nt : Nat) : DCall Tryz.prog 49 [Sb s] tok nt (.tup [.d (tks (toksR s).1), I (toksR s).2.1, I (toksR s).2.2]) tok nt := by
  intro box nb
  obtain ⟨R, hR⟩ : ∃ R, toksR s = R := ⟨_, rfl⟩
  rw [hR]
  unfold toksR at hR
  refine sB Tryz.func49 Tryz.ntmps49 ?_
  intro hbox htok
  simp only at hbox htok
  apply AL.start
  have ht0 := TK.start htok
  try (simp)
  repeat (refine sR ?_; simp)
  by_cases h0 : 20000 < s.size
  · rw [if_pos h0] at hR
    have h0' : (20000 : Int) < s.size := by omega
    try (simp [h0'])
    repeat (first | (refine sR ?_; simp [h0']) | (refine sC ?_; simp [h0']) | (refine sX ?_; simp only [AU, ↓reduceIte]))
    refine sT ?_
    try simp only [AU]
    refine ⟨by simp, sF hbox htok (fun _ h => h) (Nat.le_refl _) ?_⟩
    simp [packA, ← hR, tks]
  · rw [if_neg h0] at hR
    have h0' : ¬ (20000 : Int) < s.size := by omega
    try (simp [h0'])
    repeat (first | (refine sR ?_; simp [h0']) | (refine sC ?_; simp [h0']) | (refine sX ?_; simp only [AU, ↓reduceIte]))
    refine sN ?_
    refine AL.loopT (stTu s nb box) (UkInv s R tok nt) (fun x => s.size - x.a) ⟨0, 1, [], .full, tok, nt, s.size⟩ (UkInv.of (Nat.zero_le _) (by omega) (by omega) (by omega) (by simp) (by rw [dropB_zero]; exact hR) ht0.full) (Weaks.mk (Nat.le_refl _) rfl (by simp [ToL, lk]) trivial) ?_
    rintro ⟨a, line, out, own, tok1, nt1, f⟩ S hinv hS
    obtain ⟨ha, hf, hl0, hl1, hn, hr, htk⟩ := hinv
    simp only [stTu] at hS ha hf hl0 hl1 hn hr htk ⊢
    subst hS
    have hds := dropB_size s a
    by_cases he : s.size = a
    · rw [toksF_end (by omega)] at hr
      have he' : ¬ (a : Int) < s.size := by omega
      try (simp [he'])
      repeat (refine sR ?_; simp [he'])
      refine sC ?_
      simp
      refine sX ?_
      simp only [AU, ↓reduceIte]
      try (simp)
      repeat (refine sR ?_; simp)
      refine sT ?_
      try simp only [AU]
      refine ⟨by simp, sF hbox htok htk.old htk.le ?_⟩
      simp [packA, ← hr, tks]
    · have hlt : a < s.size := by omega
      have hlt' : (a : Int) < s.size := by omega
      have hb := byteAt_lt hlt
      have hbd : byteAt (dropB s a) 0 = byteAt s a := byteAt_drop s a 0
      have hne : ¬ (dropB s a).size = 0 := by omega
      obtain ⟨f, rfl⟩ : ∃ f', f = f' + 1 := ⟨f - 1, by omega⟩
      have hdd := fun m => dropB_dropB s a m
      have hwi := white01_c (byteAt s a)
      have hwa : IntKind.i64.wrap ((a : Int) + 1) = ((a + 1 : Nat) : Int) := by rw [wrap_in (by omega) (by omega)]; rfl
      try (simp [hlt, hlt'])
      repeat (refine sR ?_; simp [hlt, hlt'])
      refine sC ?_
      simp
      try (simp [hlt, hlt'])
      repeat (refine sR ?_; simp [hlt, hlt'])
      rw [hb]
      by_cases e5 : byteAt s a = 35
      · rw [toksF_cm hne (hbd.trans e5), runN_drop, hdd, Nat.add_zero] at hr
        have hpos := runN_pos (p := nlB) hlt (by simp [nlB, e5])
        have hle := runN_le nlB s a
        try (simp [e5])
        repeat (first | (refine sR ?_; simp [e5]) | (refine sC ?_; simp [e5]) | (refine sX ?_; simp only [AU, ↓reduceIte]))
        refine sN ?_
        refine AL.loopT (stTi s ⟨a, line, out, own, tok1, nt1, f⟩ nb box) (fun i => a ≤ i ∧ i ≤ s.size ∧ ∀ j, a ≤ j → j < i → nlB (byteAt s j) = true) (fun i => s.size - i) a ⟨Nat.le_refl _, ha, by omega⟩ (Weaks.mk htk.le rfl (by simp [ToL, lk]) trivial) ?_
        rintro i S ⟨i1, i2, i3⟩ hS
        simp only [stTi] at hS
        subst hS
        have hwj : IntKind.i64.wrap ((i : Int) + 1) = ((i + 1 : Nat) : Int) := by rw [wrap_in (by omega) (by omega)]; rfl
        have fin : (i = s.size ∨ nlB (byteAt s i) = false) → runN nlB s a = i - a := fun h => by
          refine runN_eq (by omega) (fun j hj => i3 (a + j) (by omega) (by omega)) ?_
          rw [show a + (i - a) = i by omega]
          exact h
        by_cases hi : i < s.size
        · have hi' : (i : Int) < s.size := by omega
          have hbi := byteAt_lt hi
          try (simp [hi, hi'])
          repeat (refine sR ?_; simp [hi, hi'])
          rw [hbi]
          by_cases e1 : byteAt s i = 10
          · have b1 : (byteAt s i != 10) = false := by simp [e1]
            have hrn := fin (.inr (by simp [nlB, e1]))
            try (simp [b1])
            repeat (refine sR ?_; simp [b1])
            refine sC ?_
            simp
            refine sX ?_
            simp only [AU, ↓reduceIte]
            refine sX ?_
            simp only [AU, ↓reduceIte]
            refine sE ?_
            refine ⟨⟨i, line, out, own, tok1, nt1, f⟩, UkInv.of i2 (by omega) hl0 (by omega) hn (by rw [hrn, show a + (i - a) = i by omega] at hr; exact hr) htk, by simp only; omega, Weaks.mk htk.le rfl (by simp [ToL, lk]) trivial⟩
          · have b1 : (byteAt s i != 10) = true := by simp [e1]
            try (simp [b1])
            repeat (refine sR ?_; simp [b1])
            refine sC ?_
            simp
            try (simp [hwj])
            repeat (refine sR ?_; simp [hwj])
            refine sE ?_
            refine ⟨i + 1, ⟨by omega, hi, fun j hj1 hj2 => ?_⟩, by omega, Weaks.mk htk.le rfl (by simp [ToL, lk]) trivial⟩
            by_cases e : j = i
            · subst e; simp [nlB, e1]
            · exact i3 j hj1 (by omega)
        · have hi' : ¬ (i : Int) < s.size := by omega
          have hrn := fin (.inl (by omega))
          try (simp [hi, hi'])
          repeat (refine sR ?_; simp [hi, hi'])
          refine sC ?_
          simp
          refine sX ?_
          simp only [AU, ↓reduceIte]
          refine sX ?_
          simp only [AU, ↓reduceIte]
          refine sE ?_
          refine ⟨⟨i, line, out, own, tok1, nt1, f⟩, UkInv.of i2 (by omega) hl0 (by omega) hn (by rw [hrn, show a + (i - a) = i by omega] at hr; exact hr) htk, by simp only; omega, Weaks.mk htk.le rfl (by simp [ToL, lk]) trivial⟩
      · have b5 : (byteAt s a == 35) = false := by simp [e5]
        try (simp [b5])
        repeat (refine sR ?_; simp [b5])
        refine sC ?_
        simp
        try (simp [hlt, hlt'])
        repeat (refine sR ?_; simp [hlt, hlt'])
        rw [hb]
        refine Stop.of_d (hwi _ _) ?_
        simp
        by_cases e1 : byteAt s a = 10
        · rw [toksF_nl hne (hbd.trans e1), hdd] at hr
          have hw : IntKind.i64.wrap (line + 1) = line + 1 := wrap_in (by omega) (by omega)
          try (simp [e1, hlt, hlt'])
          repeat (first | (refine sR ?_; simp [e1, hlt, hlt']) | (refine sC ?_; simp [e1, hlt, hlt']) | (refine sX ?_; simp only [AU, ↓reduceIte]))
          rw [hb]
          try (simp [e1, hw, hwa])
          repeat (first | (refine sR ?_; simp [e1, hw, hwa]) | (refine sC ?_; simp [e1, hw, hwa]) | (refine sX ?_; simp only [AU, ↓reduceIte]))
          refine sE ?_
          exact ⟨⟨a + 1, line + 1, out, own, tok1, nt1, f⟩, UkInv.of (by omega) (by omega) (by omega) (by omega) hn hr htk, by simp only; omega, Weaks.mk htk.le rfl (by simp [ToL, lk]) trivial⟩
        · have b1 : (byteAt s a == 10) = false := by simp [e1]
          have d1 : decide (byteAt s a = 10) = false := by simp [e1]
          cases e2 : whiB (byteAt s a)
          · rw [toksF_tk hne (by rw [hbd]; exact e1) (by rw [hbd]; simp [e2]) (by rw [hbd]; exact e5)] at hr
            have hx := oneA_c s a hlt hs
            have hon := one_next (s := dropB s a) (by omega)
            have hrg := nextR_rng (s := dropB s a) (by omega)
            rw [hon] at hx
            generalize textR (dropB s a) = txt at *
            generalize nextR (dropB s a) = N at *
            try (simp [d1, e2])
            repeat (first | (refine sR ?_; simp [d1, e2]) | (refine sC ?_; simp [d1, e2]) | (refine sX ?_; simp only [AU, ↓reduceIte]))
            refine Stop.of_d (hx _ _) ?_
            simp
            by_cases e6 : N.2.2 = 0
            · obtain ⟨r1, r2, r3, r4⟩ := hrg e6
              rw [if_neg (by simp [e6])] at hr
              by_cases e7 : out.length = 4000
              · rw [if_pos e7] at hr
                have b7 : ((out.length : Int) == 4000) = true := by rw [beq_iff_eq]; omega
                try (simp [e6, b7])
                repeat (first | (refine sR ?_; simp [e6, b7]) | (refine sC ?_; simp [e6, b7]) | (refine sX ?_; simp only [AU, ↓reduceIte]))
                refine sT ?_
                try simp only [AU]
                refine ⟨by simp, sF hbox htok htk.old htk.le ?_⟩
                simp [packA, ← hr, tks]
              · rw [if_neg e7, hdd] at hr
                have b7 : ((out.length : Int) == 4000) = false := by rw [beq_eq_false_iff_ne]; omega
                have hwn : IntKind.i64.wrap ((a : Int) + N.2.1) = ((a + N.2.1.toNat : Nat) : Int) := by rw [wrap_in (by omega) (by omega)]; omega
                try (simp [e6, b7])
                repeat (first | (refine sR ?_; simp [e6, b7]) | (refine sC ?_; simp [e6, b7]) | (refine sX ?_; simp only [AU, ↓reduceIte]))
                refine ⟨⟨by omega, htk.live⟩, ?_⟩
                try (simp [hwn])
                repeat (first | (refine sR ?_; simp [hwn]) | (refine sC ?_; simp [hwn]) | (refine sX ?_; simp only [AU, ↓reduceIte]))
                refine sE ?_
                exact ⟨⟨a + N.2.1.toNat, line, out ++ [⟨N.1, txt, line⟩], .tok nt1, upd (own.kill tok1) nt1 true, nt1 + 1, f⟩, UkInv.of (by omega) (by omega) (by omega) (by omega) (by simp; omega) hr htk.app, by simp only; omega, Weaks.mk (by have := htk.le; omega) rfl (by simp [ToL, lk]) trivial⟩
            · rw [if_pos e6] at hr
              have b6 : (N.2.2 == 0) = false := by simp [e6]
              have b6' : (N.2.2 != 0) = true := by simp [e6]
              try (simp [e6, b6, b6'])
              repeat (first | (refine sR ?_; simp [e6, b6, b6']) | (refine sC ?_; simp [e6, b6, b6']) | (refine sX ?_; simp only [AU, ↓reduceIte]))
              refine sT ?_
              try simp only [AU]
              refine ⟨by simp, sF hbox htok htk.old htk.le ?_⟩
              simp [packA, ← hr, tks]
          · rw [toksF_wh hne (by rw [hbd]; exact e1) (by rw [hbd]; exact e2), hdd] at hr
            try (simp [d1, e2, hlt, hlt', hb, b1, hwa])
            repeat (first | (refine sR ?_; simp [d1, e2, hlt, hlt', hb, b1, hwa]) | (refine sC ?_; simp [d1, e2, hlt, hlt', hb, b1, hwa]) | (refine sX ?_; simp only [AU, ↓reduceIte]))
            refine sE ?_
            exact ⟨⟨a + 1, line, out, own, tok1, nt1, f⟩, UkInv.of (by omega) (by omega) (by omega) (by omega) hn hr htk, by simp only; omega, Weaks.mk htk.le rfl (by simp [ToL, lk]) trivial⟩
end Go.AM
namespace Go.AM
open Go Go.Proofs
theorem text_kind {s : ByteArray} (h1 : 1 ≤ s.size) (he : (nextR s).2.2 = 0) (hk : (nextR s).1 = 2) : digB (byteAt (textR s) 0) = true := by
  have hr := nextR_rng h1 he
  have ht : textR s = s.extract 0 (nextR s).2.1.toNat := by unfold textR; rw [if_neg (by omega)]
  have hd : digB (byteAt s 0) = true := by
    unfold nextR at hk
    by_cases e1 : letB (byteAt s 0) = true
    · rw [if_pos e1] at hk
      split at hk <;> simp at hk
    · rw [if_neg e1] at hk
      by_cases e2 : digB (byteAt s 0) = true
      · exact e2
      · rw [if_neg e2] at hk
        split at hk
        · simp at hk
        · split at hk
          · simp at hk
          · split at hk <;> simp at hk
  have hb : byteAt (s.extract 0 (nextR s).2.1.toNat) 0 = byteAt s 0 := by
    have h2 : (s.extract 0 (nextR s).2.1.toNat).data.toList = s.data.toList.take (nextR s).2.1.toNat := by rw [ba_cut]; simp
    have h3 : 0 < (nextR s).2.1.toNat := by omega
    simp only [byteAt, h2, List.getD_eq_getElem?_getD, List.getElem?_take, if_pos h3]
  rw [ht, hb]
  exact hd
theorem toksF_kinds : ∀ (f : Nat) (s : ByteArray) (line : Int) (out : List Tk), TkOk out → TkOk (toksF f s line out).1
  | 0, s, line, out, ho => ho
  | f + 1, s, line, out, ho => by
    unfold toksF
    repeat' split
    · exact ho
    · exact toksF_kinds f _ _ _ ho
    · exact toksF_kinds f _ _ _ ho
    · exact toksF_kinds f _ _ _ ho
    · intro t ht; simp at ht
    · intro t ht; simp at ht
    · rename_i h0 _ _ _ he _
      have he' : (nextR s).2.2 = 0 := Decidable.not_not.1 he
      have hr := nextR_rng (s := s) (by omega) he'
      refine toksF_kinds f _ _ _ (fun t ht => ?_)
      rcases List.mem_append.1 ht with ht | ht
      · exact ho t ht
      · simp at ht
        rw [ht]
        exact ⟨hr.2.2.2, fun hk => text_kind (by omega) he' hk⟩
theorem toksR_kinds (s : ByteArray) : TkOk (toksR s).1 := by
  unfold toksR
  split
  · intro t ht; simp at ht
  · exact toksF_kinds _ _ _ _ (fun t ht => by simp at ht)
set_option maxRecDepth 100000 in
theorem command_badR (L : List Tk) : PrdD Tryz.prog L 87 (pCmd L 0) 0 := by
  intro r h hr ks box hk nb tok nt
  have hb := rem_zero h (by omega)
  have hR : pCmd L 0 r = (zC, r) := by simp only [pCmd]
  rw [hR]
  have k1 : ∀ (box : Nat → Option (List (List AV))), box ks = some [r.rowR L] → ∀ (nb : Nat) (tok : Nat → Bool) (nt : Nat), ACalls Tryz.prog 51 [.ptr ks 0 0, I 1] ⟨box, nb, tok, nt⟩ (QRd (Sb ⟨#[]⟩) (r.rowR L) ks box nb tok nt) := by
    intro box hk nb tok nt
    have hb0 : decide (0 ≤ r.bad) = true := by simp; omega
    have hrow : r.rowR L = [.d (tks L), I r.bad, B true] := by simp [hb]; omega
    refine sB Tryz.func51 Tryz.ntmps51 ?_
    intro hbox htok
    simp only at hbox htok
    apply AL.start
    have kn := key_lt hbox hk
    try (simp [lb_out kn, hk, hb, hb0, upd_lb_out kn, upd_same])
    repeat (first | (refine sR ?_; simp [lb_out kn, hk, hb, hb0, upd_lb_out kn, upd_same]) | (refine sC ?_; simp [lb_out kn, hk, hb, hb0, upd_lb_out kn, upd_same]) | (refine sX ?_; simp only [AU, ↓reduceIte]))
    refine sT ?_
    try simp only [AU]
    refine ⟨by simp, (Fin.gen (av := Sb ⟨#[]⟩) (tok' := tok) (nt' := nt) (by simp [resAs, resA, lk]; rfl) (by rw [← upd_lb_out kn, hbox]) (Nat.le_refl _) (Nat.le_refl _) (fun t ht => ⟨ht, .inl rfl⟩) (outG (by simp)) (by simp [packA])).mono fun v m hq => ?_⟩
    exact ⟨hq.1, by rw [hrow]; exact hq.2⟩
  have hb0 : decide (0 ≤ r.bad) = true := by simp; omega
  refine sB Tryz.func87 Tryz.ntmps87 ?_
  intro hbox htok
  simp only at hbox htok
  apply AL.start
  have kn := key_lt hbox hk
  try (simp)
  repeat (first | (refine sR ?_; simp) | (refine sC ?_; simp) | (refine sX ?_; simp only [AU, ↓reduceIte]))
  refine Stop.of_a (k1 _ (by simp only; rw [lb_out kn]; exact hk) _ _ _) ?_
  rintro v m ⟨rfl, rfl⟩
  try (simp [upd_lb_out kn, lb_out kn, upd_same, hb, hb0])
  repeat (first | (refine sR ?_; simp [upd_lb_out kn, lb_out kn, upd_same, hb, hb0]) | (refine sC ?_; simp [upd_lb_out kn, lb_out kn, upd_same, hb, hb0]) | (refine sX ?_; simp only [AU, ↓reduceIte]))
  refine sT ?_
  try simp only [AU]
  refine ⟨by simp, (Fin.gen (av := Cm.av zC) (tok' := tok) (nt' := nt) (by simp [resAs, resA, lk]; rfl) (by rw [← upd_lb_out kn, hbox]) (Nat.le_refl _) (Nat.le_refl _) (fun t ht => ⟨ht, .inl rfl⟩) (outG (by simp)) (by simp [packA, zC, Cm.kind, Cm.name, Cm.num, Cm.kids, cms])).mono fun v m hq => ?_⟩
  exact hq
theorem p_allR (L : List Tk) (hK : TkOk L) (hL : L.length ≤ 1000000000) (hT : ∀ t ∈ L, t.text.size ≤ 200000000000000) : ∀ n, PrdD Tryz.prog L 87 (fun q => pCmd L n q) n ∧ PrdD Tryz.prog L 52 (fun q => pBlk L n q) n
  | 0 => by
    have h1 := command_badR L
    refine ⟨h1, fun r h hr ks box hk nb tok nt => ?_⟩
    have hb := rem_zero h (by omega)
    have h2 := braces_of L hK hL _ 0 h1 (p_adv L 0).1 (p_goes L 0).1 r h (by omega) ks box hk nb tok nt
    have e : blockR L (pCmd L 0) r = (zC, r) := block_bad hb _ (by simp only [pCmd])
    have e2 : pBlk L 0 r = (zC, r) := by simp only [pBlk]
    rw [e] at h2
    simp only [e2]
    exact h2
  | n + 1 => by
    obtain ⟨h1, h2⟩ := p_allR L hK hL hT n
    have h3 := command_ofR L hK hL hT _ n h2 (p_adv L n).2 (p_goes L n).2
    have h4 := braces_of L hK hL _ n h1 (p_adv L n).1 (p_goes L n).1
    refine ⟨fun r => ?_, fun r => ?_⟩
    · simp only [pCmd]; exact h3 r
    · simp only [pBlk]; exact h4 r
def stPb (L : List Tk) (nb : Nat) (box : Nat → Option (List (List AV))) (a : AccP) : AState :=
  ⟨tl [(5, .d (tks L)), (8, .ptr (nb + 26) 0 0), (9, .ptr (nb + 9) 0 0), (2, .ptr (nb + 2) 0 0), (10, .osl 1 (a.ls.map fun n => [.raw (.int .i64 n)]) a.o1)],
    lb nb box [(26, [a.x.r.rowR L]), (9, [[.osl 5 (a.x.ps.map Pr.cells) a.o2]]), (2, [[nilS]])], a.tok, a.nt⟩
structure PInv2 (L : List Tk) (R : TS) (mtok : Nat → Bool) (nt0 : Nat) (a : AccP) : Prop where
  ok : TOk L a.x
  f : rem L a.x.r ≤ a.f
  e : topR L a.f a.x = R
  l : a.ls = a.x.ls
  k : TK mtok nt0 a.tok a.nt [a.o1, a.o2]
theorem PInv2.of {L : List Tk} {R : TS} {mtok : Nat → Bool} {nt0 : Nat} {x : TS} {ls : List Int} {o1 o2 : Own} {tok : Nat → Bool} {nt f : Nat} (h1 : TOk L x) (h2 : rem L x.r ≤ f) (h3 : topR L f x = R) (h4 : ls = x.ls) (h6 : TK mtok nt0 tok nt [o1, o2]) :
    PInv2 L R mtok nt0 ⟨x, ls, o1, o2, tok, nt, f⟩ := ⟨h1, h2, h3, h4, h6⟩
set_option maxRecDepth 100000 in
theorem parse46_c (s : ByteArray) (hs : s.size ≤ 200000000000000) (tok : Nat → Bool) (nt : Nat) : DCall Tryz.prog 17 [Sb s] tok nt (.tup [prsAv (parseR s).1, I (parseR s).2.1, I (parseR s).2.2]) tok nt := by
  intro box nb
  have ht := tokens01_c s hs
  obtain ⟨hT, hL⟩ := toksR_ok s
  have hK := toksR_kinds s
  obtain ⟨N, hN⟩ : ∃ N, parseR s = N := ⟨_, rfl⟩
  rw [hN]
  unfold parseR at hN
  generalize toksR s = K at *
  refine sB Tryz.func17 Tryz.ntmps17 ?_
  intro hbox htok
  simp only at hbox htok
  apply AL.start
  have ht0 := TK.start htok
  try (simp)
  repeat (refine sR ?_; simp)
  refine Stop.of_d (ht _ _) ?_
  simp
  try (simp)
  repeat (refine sR ?_; simp)
  by_cases he : K.2.2 = 0
  · rw [if_neg (by simp [he])] at hN
    have be : (K.2.2 != 0) = false := by simp [he]
    generalize K.1 = L at *
    have hT2 : ∀ t ∈ L, t.text.size ≤ 200000000000000 := fun t h => by have := hT t h; omega
    simp only [be]
    try (simp)
    repeat (first | (refine sR ?_; simp) | (refine sC ?_; simp) | (refine sX ?_; simp only [AU, ↓reduceIte]))
    refine sN ?_
    obtain ⟨R, hR⟩ : ∃ R, topR L (L.length + 1) ⟨⟨0, -1⟩, [], []⟩ = R := ⟨_, rfl⟩
    unfold parseL at hN
    rw [hR] at hN
    refine AL.loopT (stPb L nb box) (fun a => PInv2 L R tok nt a ∧ (L.length = 0 → a.x = ⟨⟨0, -1⟩, [], []⟩)) (fun a => a.f) ⟨⟨⟨0, -1⟩, [], []⟩, [], .full, .full, tok, nt, L.length + 1⟩ ⟨PInv2.of (TOk.start L) (by simp [rem]) hR rfl ht0.full.full, fun _ => rfl⟩
      (Weaks.mk (Nat.le_refl _) rfl (by simp [ToL, lk]) (by simp [BoxL, lk])) ?_
    rintro ⟨x, ls, o1, o2, tok1, nt1, f⟩ S ⟨hinv, hst⟩ hS
    obtain ⟨ho, hf, hRR, hls, htk⟩ := hinv
    simp only [stPb] at hS ho hf hRR hls htk hst ⊢
    subst hS
    subst hls
    have hok := ho.ok
    have hps := ho.ln
    have hlsl := ho.ls
    have hrl := rem_le L x.r
    have hd0 : decide (0 ≤ x.r.bad) = !decide (x.r.bad < 0) := by rw [Bool.eq_iff_iff]; simp
    by_cases hc : x.r.bad < 0 ∧ x.r.at' < L.length
    · obtain ⟨hb, hlt⟩ := hc
      have hlt' : (x.r.at' : Int) < L.length := by omega
      have hpos := rem_pos hb hok
      obtain ⟨f, rfl⟩ : ∃ f', f = f' + 1 := ⟨f - 1, by omega⟩
      rw [topR, if_pos ⟨hb, .inl hlt⟩] at hRR
      obtain ⟨hto, hltr⟩ := topS_ok (by omega) hT2 ho hb
      have hli : lineAt L x.r.at' = L[x.r.at'].line := by simp [lineAt, hlt]
      have t1 := word46_c L hK x.r hok (by omega) sPro (by decide) (nb + 26)
      have h1 := AdvS.take hok sPro
      have hT1 : topS L x = ⟨(pBlk L (L.length + 1) (kindR L (takeR L x.r sPro) 1).2).2, x.ps ++ [⟨(kindR L (takeR L x.r sPro) 1).1, (pBlk L (L.length + 1) (kindR L (takeR L x.r sPro) 1).2).1⟩], x.ls ++ [lineAt L x.r.at']⟩ := rfl
      generalize takeR L x.r sPro = r1 at *
      have k1 := take46_c L r1 h1.ok (by omega) 1 (nb + 26)
      have h2 := AdvS.kind h1.ok 1
      obtain ⟨w, r2, hw⟩ : ∃ w r2, kindR L r1 1 = (w, r2) := ⟨_, _, rfl⟩
      rw [hw] at k1 h2 hT1
      simp only at k1 h2 hT1
      have b1 := (p_allR L hK (by omega) hT2 (L.length + 1)).2 r2 h2.ok (rem_le L r2) (nb + 26)
      obtain ⟨c, r3, hc3⟩ : ∃ c r3, pBlk L (L.length + 1) r2 = (c, r3) := ⟨_, _, rfl⟩
      rw [hc3] at hT1
      simp only [hc3] at b1 hT1
      try (simp [lk, hd0, hb, hlt, hlt'])
      repeat (first | (refine sR ?_; simp [lk, hd0, hb, hlt, hlt']) | (refine sC ?_; simp [lk, hd0, hb, hlt, hlt']) | (refine sX ?_; simp only [AU, ↓reduceIte]))
      refine ⟨⟨by omega, htk.live⟩, ?_⟩
      have htk2 := htk.app
      try (simp)
      repeat (first | (refine sR ?_; simp) | (refine sC ?_; simp) | (refine sX ?_; simp only [AU, ↓reduceIte]))
      refine Stop.of_a (t1 _ (by simp [lb_at, lk, hb]) _ _ _) ?_
      rintro v m ⟨rfl, rfl⟩
      try (simp)
      repeat (first | (refine sR ?_; simp) | (refine sC ?_; simp) | (refine sX ?_; simp only [AU, ↓reduceIte]))
      refine Stop.of_a (k1 _ (by simp [lb_at, lk]) _ _ _) ?_
      rintro v m ⟨rfl, rfl⟩
      try (simp)
      repeat (first | (refine sR ?_; simp) | (refine sC ?_; simp) | (refine sX ?_; simp only [AU, ↓reduceIte]))
      refine Stop.of_a (b1 _ (by simp [lb_at, lk]) _ _ _) ?_
      rintro v m ⟨rfl, rfl⟩
      try (simp [lk])
      repeat (first | (refine sR ?_; simp [lk]) | (refine sC ?_; simp [lk]) | (refine sX ?_; simp only [AU, ↓reduceIte]))
      refine ⟨⟨by omega, htk2.swap.live⟩, ?_⟩
      try (simp)
      repeat (first | (refine sR ?_; simp) | (refine sC ?_; simp) | (refine sX ?_; simp only [AU, ↓reduceIte]))
      refine sE ?_
      refine ⟨⟨topS L x, x.ls ++ [lineAt L x.r.at'], .tok nt1, .tok (nt1 + 1), upd (o2.kill (upd (o1.kill tok1) nt1 true)) (nt1 + 1) true, nt1 + 1 + 1, f⟩, ⟨PInv2.of hto (by omega) hRR rfl htk2.swap.app.swap, fun hz => absurd hlt (by rw [hz]; simp)⟩, by simp only; omega, ?_⟩
      simp only [stPb, hT1]
      exact Weaks.mk (by have := htk2.le; omega) rfl (by simp [ToL, lk, hli]) (by simp [BoxL, lk, Pr.cells])
    · by_cases hz : L.length = 0
      · have hx := hst hz
        rw [if_pos hz] at hN
        subst hx
        have hz' : ((L.length : Int) == 0) = true := by rw [beq_iff_eq]; omega
        have hz2 : ¬ (0 : Int) < L.length := by omega
        try (simp [lk, hz])
        repeat (first | (refine sR ?_; simp [lk, hz]) | (refine sC ?_; simp [lk, hz]) | (refine sX ?_; simp only [AU, ↓reduceIte]))
        try (simp [lk, hz])
        repeat (first | (refine sR ?_; simp [lk, hz]) | (refine sC ?_; simp [lk, hz]) | (refine sX ?_; simp only [AU, ↓reduceIte]))
        refine sT ?_
        try simp only [AU]
        refine ⟨by simp, sF hbox htok htk.old htk.le ?_⟩
        simp [packA, ← hN, prs]
      · have hRx : R = x := by
          cases f with
          | zero => exact hRR.symm
          | succ f => rw [topR, if_neg (by omega)] at hRR; exact hRR.symm
        rw [hRx, if_neg hz] at hN
        have hz' : ¬ L = [] := fun h => hz (by rw [h]; rfl)
        have hfc := fault46_c x.ps [] false (ho.prs (by omega)) (by simp)
        have hrg := faultR_rng x.ps [] false
        by_cases hb0 : 0 ≤ x.r.bad
        · have hb : ¬ x.r.bad < 0 := by omega
          rw [if_pos hb0] at hN
          have hmin : min x.r.bad ((L.length : Int) - 1) = if x.r.bad < L.length then x.r.bad else (L.length : Int) - 1 := by split <;> omega
          have hw : IntKind.i64.wrap ((L.length : Int) - 1) = (L.length : Int) - 1 := wrap_in (by omega) (by omega)
          by_cases hge : x.r.bad < L.length
          · have hbt : x.r.bad.toNat < L.length := by omega
            have hbl : badLine L x.r.bad = L[x.r.bad.toNat].line := by unfold badLine; rw [if_pos (by omega)]; simp [lineAt, hbt]
            rw [if_pos hge] at hmin
            rw [hbl] at hN
            try (simp [lk, hd0, hb, hge])
            repeat (refine sR ?_; simp [lk, hd0, hb, hge])
            refine sC ?_
            simp
            refine sX ?_
            simp only [AU, ↓reduceIte]
            try (simp [lk, hd0, hb])
            repeat (refine sR ?_; simp [lk, hd0, hb])
            refine sC ?_
            simp
            refine sN ?_
            refine AL.region2 follows_Tryz (Nat.le_refl _) (by kernel_rfl) (Side.of (by simp)) ?_
            simp [lk, hd0, hb, hw, hmin, hb0, hbt, hge]
            refine sT ?_
            try simp only [AU]
            refine ⟨by simp, sF hbox htok htk.old htk.le ?_⟩
            simp [packA, ← hN, prs]
          · have hbl : badLine L x.r.bad = lineAt L (L.length - 1) := by unfold badLine; rw [if_neg (by omega)]
            have hli : lineAt L (L.length - 1) = L[L.length - 1].line := by simp [lineAt, show L.length - 1 < L.length by omega]
            rw [if_neg hge] at hmin
            rw [hbl, hli] at hN
            have q1 : (0 : Int) ≤ (L.length : Int) - 1 := by omega
            have q2 : ((L.length : Int) - 1).toNat = L.length - 1 := by omega
            have q3 : L.length - 1 < L.length := by omega
            have q4 : (L.length : Int) - 1 < L.length := by omega
            try (simp [lk, hd0, hb, hge])
            repeat (refine sR ?_; simp [lk, hd0, hb, hge])
            refine sC ?_
            simp
            refine sX ?_
            simp only [AU, ↓reduceIte]
            try (simp [lk, hd0, hb])
            repeat (refine sR ?_; simp [lk, hd0, hb])
            refine sC ?_
            simp
            refine sN ?_
            refine AL.region2 follows_Tryz (Nat.le_refl _) (by kernel_rfl) (Side.of (by simp)) ?_
            simp [lk, hd0, hb, hw, hmin, q1, q2, q3, q4]
            refine ⟨by omega, ?_⟩
            refine sT ?_
            try simp only [AU]
            refine ⟨by simp, sF hbox htok htk.old htk.le ?_⟩
            simp [packA, ← hN, prs]
        · have hb : x.r.bad < 0 := by omega
          rw [if_neg hb0] at hN
          have h1' : ¬ (x.r.at' : Int) < L.length := by omega
          obtain ⟨F, hF⟩ : ∃ F, faultR x.ps [] false = F := ⟨_, rfl⟩
          rw [hF] at hN hfc hrg
          try (simp [lk, hd0, hb, h1'])
          repeat (first | (refine sR ?_; simp [lk, hd0, hb, h1']) | (refine sC ?_; simp [lk, hd0, hb, h1']) | (refine sX ?_; simp only [AU, ↓reduceIte]))
          try (simp [lk, hd0, hb, hz'])
          repeat (first | (refine sR ?_; simp [lk, hd0, hb, hz']) | (refine sC ?_; simp [lk, hd0, hb, hz']) | (refine sX ?_; simp only [AU, ↓reduceIte]))
          refine Stop.sub (args' := [prsAv x.ps, .d (strs []), B false]) ⟨fun _ _ _ h => h.asD, Sub.nil _ _ _, Sub.refl _, trivial⟩ ?_
          refine Stop.of_d (hfc _ _) ?_
          simp
          by_cases he2 : F.2 = 0
          · have b2 : (F.2 == 0) = true := by simp [he2]
            rw [if_neg (by simp [he2])] at hN
            try (simp [b2, lk])
            repeat (first | (refine sR ?_; simp [b2, lk]) | (refine sC ?_; simp [b2, lk]) | (refine sX ?_; simp only [AU, ↓reduceIte]))
            refine sT ?_
            try simp only [AU]
            refine ⟨by simp, sF hbox htok htk.old htk.le ?_⟩
            simp [packA, ← hN, prs, he2]
          · have b2 : (F.2 == 0) = false := by simp [he2]
            rw [if_pos he2] at hN
            rcases hrg with hi | hi
            · have hi' : ¬ 0 ≤ F.1 := by omega
              have hi2 : F.1 < 0 := by omega
              rw [if_neg hi'] at hN
              try (simp [b2, hi2, lk])
              repeat (first | (refine sR ?_; simp [b2, hi2, lk]) | (refine sC ?_; simp [b2, hi2, lk]) | (refine sX ?_; simp only [AU, ↓reduceIte]))
              refine sT ?_
              try simp only [AU]
              refine ⟨by simp, sF hbox htok htk.old htk.le ?_⟩
              simp [packA, ← hN, prs]
            · have hi2 : ¬ F.1 < 0 := by omega
              have hil : F.1.toNat < x.ls.length := by omega
              have hil' : F.1 < x.ls.length := by omega
              have hgd : x.ls.getD F.1.toNat 0 = x.ls[F.1.toNat] := by simp [List.getD_eq_getElem?_getD, hil]
              rw [if_pos hi.1, hgd] at hN
              try (simp [b2, lk])
              repeat (refine sR ?_; simp [b2, lk])
              refine sC ?_
              simp
              try (simp [hi2, lk])
              repeat (refine sR ?_; simp [hi2, lk])
              refine sC ?_
              simp
              refine sN ?_
              refine AL.region2 follows_Tryz (Nat.le_refl _) (by kernel_rfl) (Side.of (by simp)) ?_
              simp [hi.1, lk, hil, hil']
              refine sT ?_
              try simp only [AU]
              refine ⟨by simp, sF hbox htok htk.old htk.le ?_⟩
              simp [packA, ← hN, prs]
  · rw [if_pos he] at hN
    have be : (K.2.2 != 0) = true := by simp [he]
    simp only [be]
    try (simp)
    repeat (first | (refine sR ?_; simp) | (refine sC ?_; simp) | (refine sX ?_; simp only [AU, ↓reduceIte]))
    refine sT ?_
    try simp only [AU]
    refine ⟨by simp, sF hbox htok (fun _ h => h) (Nat.le_refl _) ?_⟩
    simp [packA, ← hN, prs]
end Go.AM
