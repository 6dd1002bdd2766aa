import Derived.Test.YtgonmjghdkoekaaFacW
namespace Go.AM
open Go Go.Proofs
set_option linter.unusedSimpArgs false
set_option linter.unusedVariables false

/-! ### factor.Quotients -/
def qsOf (a : Gr) (L M : List (List Int)) (p : List Int) : List Qu := (M.filter (alikeB (gE a p))).map (quF a p)
def goneQ (a : Gr) (j : Nat) : List Qu := (((partsN a.nodes.length).take j).filter (alikeB (gN a))).flatMap (qsOf a [] (partsN a.edges.length))
def goneE (a : Gr) (p : List Int) (i : Nat) : List Qu := qsOf a [] ((partsN a.edges.length).take i) p

theorem goneQ_all (a : Gr) : goneQ a (partsN a.nodes.length).length = listQ a := by
  unfold goneQ listQ qsOf
  rw [List.take_length]
theorem goneE_all (a : Gr) (p : List Int) : goneE a p (partsN a.edges.length).length = qsOf a [] (partsN a.edges.length) p := by
  unfold goneE
  rw [List.take_length]
theorem goneQ_no (a : Gr) (j : Nat) (h : j < (partsN a.nodes.length).length) (hp : alikeB (gN a) (partsN a.nodes.length)[j] = false) : goneQ a (j + 1) = goneQ a j := by
  unfold goneQ
  rw [List.take_succ_eq_append_getElem h, List.filter_append]
  simp [hp]
theorem goneQ_yes (a : Gr) (j : Nat) (h : j < (partsN a.nodes.length).length) (hp : alikeB (gN a) (partsN a.nodes.length)[j] = true) : goneQ a (j + 1) = goneQ a j ++ qsOf a [] (partsN a.edges.length) (partsN a.nodes.length)[j] := by
  unfold goneQ
  rw [List.take_succ_eq_append_getElem h, List.filter_append, List.flatMap_append]
  simp [hp]
theorem goneE_no (a : Gr) (p : List Int) (i : Nat) (h : i < (partsN a.edges.length).length) (hp : alikeB (gE a p) (partsN a.edges.length)[i] = false) : goneE a p (i + 1) = goneE a p i := by
  unfold goneE qsOf
  rw [List.take_succ_eq_append_getElem h, List.filter_append]
  simp [hp]
theorem goneE_yes (a : Gr) (p : List Int) (i : Nat) (h : i < (partsN a.edges.length).length) (hp : alikeB (gE a p) (partsN a.edges.length)[i] = true) : goneE a p (i + 1) = goneE a p i ++ [quF a p (partsN a.edges.length)[i]] := by
  unfold goneE qsOf
  rw [List.take_succ_eq_append_getElem h, List.filter_append, List.map_append]
  simp [hp]
theorem goneE_le (a : Gr) (p : List Int) (i : Nat) (h : i ≤ (partsN a.edges.length).length) : (goneE a p i).length ≤ (qsOf a [] (partsN a.edges.length) p).length := by
  exact (((List.take_sublist i (partsN a.edges.length)).filter (alikeB (gE a p))).map (quF a p)).length_le
theorem goneQ_le (a : Gr) (j : Nat) : (goneQ a j).length ≤ (listQ a).length := by
  have : partsN a.nodes.length = (partsN a.nodes.length).take j ++ (partsN a.nodes.length).drop j := by simp
  have e : listQ a = goneQ a j ++ (((partsN a.nodes.length).drop j).filter (alikeB (gN a))).flatMap (qsOf a [] (partsN a.edges.length)) := by
    unfold goneQ
    rw [← List.flatMap_append, ← List.filter_append, ← this]
    rfl
  rw [e]
  simp

theorem quotientsR_list (a : Gr) (hv : validG a = 0) (hs : ¬ (6 < a.nodes.length ∨ 6 < a.edges.length)) : quotientsR a = if 2000 < (listQ a).length then ([], 3) else (listQ a, 0) := by
  have h := quN_list a (validG_edges hv)
  unfold quotientsR
  simp only [hv, hs, h, ne_eq, not_true_eq_false, ↓reduceIte]
  by_cases hb : 2000 < (listQ a).length
  · have : 2000 < ((listQ a).take 2001).length := by simp; omega
    rw [if_pos this, if_pos hb]
  · have : (listQ a).take 2001 = listQ a := List.take_of_length_le (by omega)
    rw [this]

structure AccQ where
  i : Nat
  own : Own
  tok : Nat → Bool
  nt : Nat

def st18a (a : Gr) (nb : Nat) (box : Nat → Option (List (List AV))) (x : AccQ) : AState :=
  ⟨tl [(1, .ptr (nb + 1) 0 0), (7, .d (lists (partsN a.edges.length))), (9, .osl 4 ((goneQ a x.i).map Qu.cells) x.own), (44, .d (lists (partsN a.nodes.length))), (45, I (partsN a.nodes.length).length), (46, I x.i)],
    lb nb box [(1, [[.d (ints a.nodes), .d (AM.edges a.edges)]])], x.tok, x.nt⟩

def st18b (a : Gr) (p : List Int) (j : Nat) (nb : Nat) (box : Nat → Option (List (List AV))) (x : AccQ) : AState :=
  ⟨tl [(1, .ptr (nb + 1) 0 0), (7, .d (lists (partsN a.edges.length))), (9, .osl 4 ((goneQ a j ++ goneE a p x.i).map Qu.cells) x.own), (11, .ptr (nb + 11) 0 0), (12, .fn (.func 48) [.ptr (nb + 1) 0 0, .ptr (nb + 11) 0 0]),
      (44, .d (lists (partsN a.nodes.length))), (45, I (partsN a.nodes.length).length), (46, I j), (55, .d (lists (partsN a.edges.length))), (56, I (partsN a.edges.length).length), (57, I x.i)],
    lb nb box [(1, [[.d (ints a.nodes), .d (AM.edges a.edges)]]), (11, [[.d (ints p)]])], x.tok, x.nt⟩

theorem quotientsF_c (a : Gr) (ha : a.Fit) (tok : Nat → Bool) (nt : Nat) : DCall Try.prog 18 [a.av] tok nt (.tup [.d (qus (quotientsR a).1), I (quotientsR a).2]) tok nt := by
  intro box nb
  have han := ha.n
  have hae := ha.e
  have main : ACalls Try.prog 18 [a.av] ⟨box, nb, tok, nt⟩ fun v m => (v = .tup [.d (qus (quotientsR a).1), I (quotientsR a).2] ∨ (quotientsR a).1 = [] ∧ v = .tup [.osl 0 [] .full, I (quotientsR a).2]) ∧ m = ⟨box, nb, tok, nt⟩ := by
    refine ACalls.of_body Try.func18 rfl (by kernel_rfl) follows_Try (by kernel_rfl) (by simp [Try.ntmps18]) ?_
    intro hbox htok
    simp only at hbox htok
    apply AL.start
    repeat (first | refine AL.seq ?_ | refine AL.block ?_ | refine AL.skip ?_ | refine AL.blk ?_)
    refine AL.region follows_Try (Nat.le_refl _) (by kernel_rfl) ?_
    simp
    repeat (first | refine AL.seq ?_ | refine AL.block ?_ | refine AL.skip ?_ | refine AL.blk ?_)
    refine AL.region follows_Try (Nat.le_refl _) (by kernel_rfl) ?_
    simp
    refine Stop.of_d (graphValid_c a ha _ _) ?_
    simp
    by_cases hva : validG a = 0
    · repeat (first | refine AL.seq ?_ | refine AL.block ?_ | refine AL.skip ?_ | refine AL.blk ?_)
      refine AL.region follows_Try (Nat.le_refl _) (by kernel_rfl) ?_
      simp [hva]
      repeat (first | refine AL.seq ?_ | refine AL.block ?_ | refine AL.skip ?_ | refine AL.blk ?_)
      refine AL.cond ?_
      simp
      have big : (6 < a.nodes.length ∨ 6 < a.edges.length) → quotientsR a = ([], 3) := fun hbig => by simp [quotientsR, hva, hbig]
      repeat (first | refine AL.seq ?_ | refine AL.block ?_ | refine AL.skip ?_ | refine AL.blk ?_)
      refine AL.region follows_Try (Nat.le_refl _) (by kernel_rfl) ?_
      simp
      first | refine Gd.dt (fun hs1 => ?_) (fun hs1 => ?_) | refine Gd.df (fun hs1 => ?_) (fun hs1 => ?_) | refine Gd.t (fun hs1 => ?_) (fun hs1 => ?_) | refine Gd.f (fun hs1 => ?_) (fun hs1 => ?_)
      · simp [hs1]
        repeat (first | refine AL.seq ?_ | refine AL.block ?_ | refine AL.skip ?_ | refine AL.blk ?_)
        refine AL.cond ?_
        simp
        repeat (first | refine AL.seq ?_ | refine AL.block ?_ | refine AL.skip ?_ | refine AL.blk ?_)
        refine AL.region follows_Try (Nat.le_refl _) (by kernel_rfl) ?_
        simp
        have hR := big (by omega)
        repeat (first | refine AL.seq ?_ | refine AL.block ?_ | refine AL.skip ?_ | refine AL.blk ?_)
        refine AL.ret ?_
        try simp only [AU]
        refine ⟨by simp, (Fin.data (av := .tup [.osl 0 [] .full, I 3]) (by simp [resAs, resA]; rfl) hbox rfl htok (fun _ h => h) (Nat.le_refl _) (by simp [packA])).mono fun v m hq => ⟨.inr ⟨by rw [hR], by rw [hR, hq.1]⟩, hq.2⟩⟩
      · simp [hs1]
        repeat (first | refine AL.seq ?_ | refine AL.block ?_ | refine AL.skip ?_ | refine AL.blk ?_)
        refine AL.cond ?_
        simp
        refine ⟨fun hs2 => ?_, fun hs2 => ?_⟩
        · repeat (first | refine AL.seq ?_ | refine AL.block ?_ | refine AL.skip ?_ | refine AL.blk ?_)
          refine AL.region follows_Try (Nat.le_refl _) (by kernel_rfl) ?_
          simp
          have hR := big (by omega)
          repeat (first | refine AL.seq ?_ | refine AL.block ?_ | refine AL.skip ?_ | refine AL.blk ?_)
          refine AL.ret ?_
          try simp only [AU]
          refine ⟨by simp, (Fin.data (av := .tup [.osl 0 [] .full, I 3]) (by simp [resAs, resA]; rfl) hbox rfl htok (fun _ h => h) (Nat.le_refl _) (by simp [packA])).mono fun v m hq => ⟨.inr ⟨by rw [hR], by rw [hR, hq.1]⟩, hq.2⟩⟩
        · have hsm : ¬ (6 < a.nodes.length ∨ 6 < a.edges.length) := by omega
          have hRl := quotientsR_list a hva hsm
          repeat (first | refine AL.seq ?_ | refine AL.block ?_ | refine AL.skip ?_ | refine AL.blk ?_)
          refine AL.region follows_Try (Nat.le_refl _) (by kernel_rfl) ?_
          simp
          refine Stop.of_d (all45_c a.nodes.length (by omega) _ _) ?_
          simp
          repeat (first | refine AL.seq ?_ | refine AL.block ?_ | refine AL.skip ?_ | refine AL.blk ?_)
          refine AL.region follows_Try (Nat.le_refl _) (by kernel_rfl) ?_
          simp
          refine Stop.of_d (all45_c a.edges.length (by omega) _ _) ?_
          simp
          repeat (first | refine AL.seq ?_ | refine AL.block ?_ | refine AL.skip ?_ | refine AL.blk ?_)
          refine AL.region follows_Try (Nat.le_refl _) (by kernel_rfl) ?_
          simp
          repeat (first | refine AL.seq ?_ | refine AL.block ?_ | refine AL.skip ?_ | refine AL.blk ?_)
          refine AL.region follows_Try (Nat.le_refl _) (by kernel_rfl) ?_
          simp
          repeat (first | refine AL.seq ?_ | refine AL.block ?_ | refine AL.skip ?_ | refine AL.blk ?_)
          have hfew := partsN_few a.nodes.length (by omega)
          have hfewE := partsN_few a.edges.length (by omega)
          refine AL.loopT (st18a a nb box) (fun x => x.i ≤ (partsN a.nodes.length).length ∧ TK tok nt x.tok x.nt [x.own] ∧ (goneQ a x.i).length ≤ 2000) (fun x => (partsN a.nodes.length).length - x.i) ⟨0, .full, tok, nt⟩ ⟨Nat.zero_le _, (TK.start htok).full, by simp [goneQ]⟩ (Weaks.mk (Nat.le_refl _) rfl (by simp [ToL, lk, goneQ]) (by simp [BoxL, lk])) ?_
          rintro ⟨j, own, tok1, nt1⟩ S ⟨hj, htk, hle⟩ hS
          simp only [st18a] at hS hj htk hle
          subst hS
          have hwj : IntKind.i64.wrap (↑j + 1) = ((j + 1 : Nat) : Int) := by rw [wrap_in (by omega) (by omega)]; rfl
          repeat (first | refine AL.seq ?_ | refine AL.block ?_ | refine AL.skip ?_ | refine AL.blk ?_)
          refine AL.region follows_Try (Nat.le_refl _) (by kernel_rfl) ?_
          simp
          repeat (first | refine AL.seq ?_ | refine AL.block ?_ | refine AL.skip ?_ | refine AL.blk ?_)
          refine AL.cond ?_
          simp
          refine ⟨fun hlt => ?_, fun hge => ?_⟩
          · have hpl := partsN_len _ _ (List.getElem_mem hlt)
            have hpp := partsN_partL _ _ (List.getElem_mem hlt)
            have hyes := goneQ_yes a j hlt
            have hno := goneQ_no a j hlt
            repeat (first | refine AL.seq ?_ | refine AL.block ?_ | refine AL.skip ?_ | refine AL.blk ?_)
            refine AL.region follows_Try (Nat.le_refl _) (by kernel_rfl) ?_
            simp [hlt]
            generalize hp : (partsN a.nodes.length)[j] = p at *
            repeat (first | refine AL.seq ?_ | refine AL.block ?_ | refine AL.skip ?_ | refine AL.blk ?_)
            refine AL.region follows_Try (Nat.le_refl _) (by kernel_rfl) ?_
            simp
            have hp7 : p.length ≤ 7 := by omega
            have hf47 : ∀ i (hi : i < p.length), ∀ box' nb', Ext (lb nb box [(11, [[.d (ints p)]]), (11, [[.osl 0 [] .full]]), (1, [[.d (ints a.nodes), .d (AM.edges a.edges)]])]) box' → ACalls Try.prog 47 (I i :: I p[i] :: [.ptr (nb + 1) 0 0]) ⟨box', nb', tok1, nt1⟩ fun v m => v = B (gN a i p[i]) ∧ m = ⟨box', nb', tok1, nt1⟩ := by
              intro i hi box' nb' he
              obtain ⟨q1, q2, q3⟩ := hpp i hi
              have hk : p[i] = ((p[i].toNat : Nat) : Int) := by omega
              have := same47_c a i p[i].toNat (by omega) (by omega) han box' nb' (nb + 1) tok1 nt1 (he _ _ (by simp [lb_at, lk]))
              rw [← hk] at this
              have hg : gN a i p[i] = decide (a.nodes[i]'(by omega) = a.nodes[p[i].toNat]'(by omega)) := by
                have h1 : i < a.nodes.length := by omega
                have h2 : p[i].toNat < a.nodes.length := by omega
                simp [gN, h1, h2]
              rw [hg]
              exact this
            refine Stop.of_b (alike_c p 47 [.ptr (nb + 1) 0 0] (gN a) (by omega) _ _ _ _ (by simp [lb_at, lk]) hf47) ?_
            simp
            repeat (first | refine AL.seq ?_ | refine AL.block ?_ | refine AL.skip ?_ | refine AL.blk ?_)
            refine AL.cond ?_
            simp
            refine ⟨fun hal => ?_, fun hal => ?_⟩
            · have hq : goneQ a (j + 1) = goneQ a j := hno (by simpa using hal)
              repeat (first | refine AL.seq ?_ | refine AL.block ?_ | refine AL.skip ?_ | refine AL.blk ?_)
              repeat (first | refine AL.seq ?_ | refine AL.block ?_ | refine AL.skip ?_ | refine AL.blk ?_)
              refine AL.exit ?_
              simp only [AU, ↓reduceIte]
              repeat (first | refine AL.seq ?_ | refine AL.block ?_ | refine AL.skip ?_ | refine AL.blk ?_)
              refine AL.region follows_Try (Nat.le_refl _) (by kernel_rfl) ?_
              simp [hwj]
              repeat (first | refine AL.seq ?_ | refine AL.block ?_ | refine AL.skip ?_ | refine AL.blk ?_)
              refine AL.nil ?_
              refine ⟨⟨j + 1, own, tok1, nt1⟩, ⟨hlt, htk, by rw [hq]; exact hle⟩, by simp; omega, Weaks.mk htk.le rfl (by simp [ToL, lk, hq]) (by simp [BoxL, lk])⟩
            · have hq := hyes (by simpa using hal)
              repeat (first | refine AL.seq ?_ | refine AL.block ?_ | refine AL.skip ?_ | refine AL.blk ?_)
              refine AL.region follows_Try (Nat.le_refl _) (by kernel_rfl) ?_
              simp
              repeat (first | refine AL.seq ?_ | refine AL.block ?_ | refine AL.skip ?_ | refine AL.blk ?_)
              refine AL.region follows_Try (Nat.le_refl _) (by kernel_rfl) ?_
              simp
              repeat (first | refine AL.seq ?_ | refine AL.block ?_ | refine AL.skip ?_ | refine AL.blk ?_)
              have hlist : (goneQ a j).length + (qsOf a [] (partsN a.edges.length) p).length ≤ (listQ a).length := by
                have := goneQ_le a (j + 1)
                rw [hq, List.length_append] at this
                exact this
              refine AL.loopT (st18b a p j nb box) (fun x => x.i ≤ (partsN a.edges.length).length ∧ TK tok nt x.tok x.nt [x.own] ∧ (goneQ a j).length + (goneE a p x.i).length ≤ 2000) (fun x => (partsN a.edges.length).length - x.i) ⟨0, own, tok1, nt1⟩ ⟨Nat.zero_le _, htk, by simpa [goneE, qsOf] using hle⟩ (Weaks.mk htk.le rfl (by simp [ToL, lk, goneE, qsOf]; exact .same (okIn_fn.2 (by simp [lb_at, lk]))) (by simp [BoxL, lk])) ?_
              rintro ⟨i, own, tok2, nt2⟩ S ⟨hi, htk, hle⟩ hS
              simp only [st18b] at hS hi htk hle
              subst hS
              have hwi : IntKind.i64.wrap (↑i + 1) = ((i + 1 : Nat) : Int) := by rw [wrap_in (by omega) (by omega)]; rfl
              repeat (first | refine AL.seq ?_ | refine AL.block ?_ | refine AL.skip ?_ | refine AL.blk ?_)
              refine AL.region follows_Try (Nat.le_refl _) (by kernel_rfl) ?_
              simp
              repeat (first | refine AL.seq ?_ | refine AL.block ?_ | refine AL.skip ?_ | refine AL.blk ?_)
              refine AL.cond ?_
              simp
              refine ⟨fun hlt2 => ?_, fun hge2 => ?_⟩
              · have hel := partsN_len _ _ (List.getElem_mem hlt2)
                have hep := partsN_partL _ _ (List.getElem_mem hlt2)
                have heyes := goneE_yes a p i hlt2
                have heno := goneE_no a p i hlt2
                have hmore := goneE_le a p (i + 1) (by omega)
                repeat (first | refine AL.seq ?_ | refine AL.block ?_ | refine AL.skip ?_ | refine AL.blk ?_)
                refine AL.region follows_Try (Nat.le_refl _) (by kernel_rfl) ?_
                simp [hlt2]
                generalize he : (partsN a.edges.length)[i] = q at *
                repeat (first | refine AL.seq ?_ | refine AL.block ?_ | refine AL.skip ?_ | refine AL.blk ?_)
                refine AL.region follows_Try (Nat.le_refl _) (by kernel_rfl) ?_
                simp
                have hx' : ∀ e ∈ a.edges, 0 ≤ e.fr ∧ e.fr < p.length ∧ 0 ≤ e.to ∧ e.to < p.length := by rw [hpl]; exact validG_edges hva
                have hf48 : ∀ i (hi : i < q.length), ∀ box' nb', Ext (lb nb box [(1, [[.d (ints a.nodes), .d (AM.edges a.edges)]]), (11, [[.d (ints p)]])]) box' → ACalls Try.prog 48 (I i :: I q[i] :: [.ptr (nb + 1) 0 0, .ptr (nb + 11) 0 0]) ⟨box', nb', tok2, nt2⟩ fun v m => v = B (gE a p i q[i]) ∧ m = ⟨box', nb', tok2, nt2⟩ := by
                  intro i hi box' nb' he
                  obtain ⟨q1, q2, q3⟩ := hep i hi
                  have hk : q[i] = ((q[i].toNat : Nat) : Int) := by omega
                  have := same48_c a p i q[i].toNat (by omega) (by omega) hae hx' box' nb' (nb + 1) (nb + 11) tok2 nt2 (he _ _ (by simp [lb_at, lk])) (he _ _ (by simp [lb_at, lk]))
                  rw [← hk] at this
                  exact this
                refine Stop.of_b (alike_c q 48 [.ptr (nb + 1) 0 0, .ptr (nb + 11) 0 0] (gE a p) (by omega) _ _ _ _ (by simp [lb_at, lk]) hf48) ?_
                simp
                repeat (first | refine AL.seq ?_ | refine AL.block ?_ | refine AL.skip ?_ | refine AL.blk ?_)
                refine AL.cond ?_
                simp
                refine ⟨fun hal => ?_, fun hal => ?_⟩
                · have heq : goneE a p (i + 1) = goneE a p i := heno (by simpa using hal)
                  repeat (first | refine AL.seq ?_ | refine AL.block ?_ | refine AL.skip ?_ | refine AL.blk ?_)
                  repeat (first | refine AL.seq ?_ | refine AL.block ?_ | refine AL.skip ?_ | refine AL.blk ?_)
                  refine AL.exit ?_
                  simp only [AU, ↓reduceIte]
                  repeat (first | refine AL.seq ?_ | refine AL.block ?_ | refine AL.skip ?_ | refine AL.blk ?_)
                  refine AL.region follows_Try (Nat.le_refl _) (by kernel_rfl) ?_
                  simp [hwi]
                  repeat (first | refine AL.seq ?_ | refine AL.block ?_ | refine AL.skip ?_ | refine AL.blk ?_)
                  refine AL.nil ?_
                  refine ⟨⟨i + 1, own, tok2, nt2⟩, ⟨hlt2, htk, by rw [heq]; exact hle⟩, by simp; omega, Weaks.mk htk.le rfl (by simp [ToL, lk, heq]; exact .same (okIn_fn.2 (by simp [lb_at, lk]))) (by simp [BoxL, lk])⟩
                · have heq := heyes (by simpa using hal)
                  have hlen1 : (goneE a p (i + 1)).length = (goneE a p i).length + 1 := by rw [heq]; simp
                  repeat (first | refine AL.seq ?_ | refine AL.block ?_ | refine AL.skip ?_ | refine AL.blk ?_)
                  refine AL.region follows_Try (Nat.le_refl _) (by kernel_rfl) ?_
                  simp
                  repeat (first | refine AL.seq ?_ | refine AL.block ?_ | refine AL.skip ?_ | refine AL.blk ?_)
                  refine AL.cond ?_
                  simp
                  refine ⟨fun hful => ?_, fun hful => ?_⟩
                  · have hR : quotientsR a = ([], 3) := by rw [hRl, if_pos (by omega)]
                    repeat (first | refine AL.seq ?_ | refine AL.block ?_ | refine AL.skip ?_ | refine AL.blk ?_)
                    refine AL.region follows_Try (Nat.le_refl _) (by kernel_rfl) ?_
                    simp
                    repeat (first | refine AL.seq ?_ | refine AL.block ?_ | refine AL.skip ?_ | refine AL.blk ?_)
                    refine AL.ret ?_
                    simp only [AU]
                    refine ⟨by simp, (Fin.data (av := .tup [.osl 0 [] .full, I 3]) (by simp [resAs, resA]; rfl) hbox rfl htok htk.old htk.le (by simp [packA])).mono fun v m hq => ⟨.inr ⟨by rw [hR], by rw [hR, hq.1]⟩, hq.2⟩⟩
                  · repeat (first | refine AL.seq ?_ | refine AL.block ?_ | refine AL.skip ?_ | refine AL.blk ?_)
                    refine AL.region follows_Try (Nat.le_refl _) (by kernel_rfl) ?_
                    simp
                    refine Stop.of_d (quotient49_c a p q hpl hel (by omega) (by omega) hpp hep (validG_edges hva) _ _) ?_
                    simp
                    refine ⟨⟨by omega, htk.live⟩, ?_⟩
                    have hcell : (quF a p q).cells = Qu.cells (quF a p q) := rfl
                    repeat (first | refine AL.seq ?_ | refine AL.block ?_ | refine AL.skip ?_ | refine AL.blk ?_)
                    refine AL.region follows_Try (Nat.le_refl _) (by kernel_rfl) ?_
                    simp [hwi]
                    repeat (first | refine AL.seq ?_ | refine AL.block ?_ | refine AL.skip ?_ | refine AL.blk ?_)
                    refine AL.nil ?_
                    refine ⟨⟨i + 1, _, _, _⟩, ⟨hlt2, htk.app, by simp only []; omega⟩, by simp; omega, Weaks.mk htk.app.le rfl (by simp [ToL, lk, heq]; exact .same (okIn_fn.2 (by simp [lb_at, lk]))) (by simp [BoxL, lk])⟩
              · repeat (first | refine AL.seq ?_ | refine AL.block ?_ | refine AL.skip ?_ | refine AL.blk ?_)
                refine AL.exit ?_
                simp only [AU, ↓reduceIte]
                have : i = (partsN a.edges.length).length := by omega
                subst this
                rw [goneE_all] at hle ⊢
                repeat (first | refine AL.seq ?_ | refine AL.block ?_ | refine AL.skip ?_ | refine AL.blk ?_)
                refine AL.region follows_Try (Nat.le_refl _) (by kernel_rfl) ?_
                simp [hwj]
                repeat (first | refine AL.seq ?_ | refine AL.block ?_ | refine AL.skip ?_ | refine AL.blk ?_)
                refine AL.nil ?_
                refine ⟨⟨j + 1, own, tok2, nt2⟩, ⟨hlt, htk, by rw [hq, List.length_append]; exact hle⟩, by simp; omega, Weaks.mk htk.le rfl (by simp [ToL, lk, hq]) (by simp [BoxL, lk])⟩
          · repeat (first | refine AL.seq ?_ | refine AL.block ?_ | refine AL.skip ?_ | refine AL.blk ?_)
            refine AL.exit ?_
            simp only [AU, ↓reduceIte]
            have : j = (partsN a.nodes.length).length := by omega
            subst this
            rw [goneQ_all] at hle ⊢
            have hR : quotientsR a = (listQ a, 0) := by rw [hRl, if_neg (by omega)]
            repeat (first | refine AL.seq ?_ | refine AL.block ?_ | refine AL.skip ?_ | refine AL.blk ?_)
            refine AL.region follows_Try (Nat.le_refl _) (by kernel_rfl) ?_
            simp
            repeat (first | refine AL.seq ?_ | refine AL.block ?_ | refine AL.skip ?_ | refine AL.blk ?_)
            refine AL.ret ?_
            try simp only [AU]
            refine ⟨by simp, (Fin.data (av := .tup [.d (qus (listQ a)), I 0]) (by simp [resAs, resA]; rfl) hbox rfl htok htk.old htk.le (by simp [packA])).mono fun v m hq => ⟨.inl (by rw [hR, hq.1]), hq.2⟩⟩
    · repeat (first | refine AL.seq ?_ | refine AL.block ?_ | refine AL.skip ?_ | refine AL.blk ?_)
      refine AL.region follows_Try (Nat.le_refl _) (by kernel_rfl) ?_
      simp
      repeat (first | refine AL.seq ?_ | refine AL.block ?_ | refine AL.skip ?_ | refine AL.blk ?_)
      refine AL.cond ?_
      simp [hva]
      repeat (first | refine AL.seq ?_ | refine AL.block ?_ | refine AL.skip ?_ | refine AL.blk ?_)
      refine AL.region follows_Try (Nat.le_refl _) (by kernel_rfl) ?_
      simp
      have hR : quotientsR a = ([], validG a) := by simp [quotientsR, hva]
      repeat (first | refine AL.seq ?_ | refine AL.block ?_ | refine AL.skip ?_ | refine AL.blk ?_)
      refine AL.ret ?_
      try simp only [AU]
      refine ⟨by simp, (Fin.data (av := .tup [.osl 0 [] .full, I (validG a)]) (by simp [resAs, resA]; rfl) hbox rfl htok (fun _ h => h) (Nat.le_refl _) (by simp [packA])).mono fun v m hq => ⟨.inr ⟨by rw [hR], by rw [hR, hq.1]⟩, hq.2⟩⟩
  refine main.conv fun v m h => ?_
  obtain ⟨rfl | ⟨h1, rfl⟩, rfl⟩ := h
  · exact ⟨_, _, Conv.refl _ _, rfl, rfl⟩
  · refine ⟨_, _, Conv.sub (v' := .tup [.d (qus (quotientsR a).1), I (quotientsR a).2]) (Sub.tup ⟨?_, Sub.refl _, trivial⟩), rfl, rfl⟩
    rw [h1]
    exact Sub.nil _ _ _
end Go.AM
