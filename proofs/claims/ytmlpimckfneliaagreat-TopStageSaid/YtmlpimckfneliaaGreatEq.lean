/- A run reckoned beforehand: regions in any order, the whole. No conditions. -/
import Derived.Test.YtmlpimckfneliaaGreatEp
namespace Go.Proofs.YtmlpimckfneliaaGreat.Ev
/-- edges lead back; who meets in a slot waits -/
def regOk (ops : Array Oper) : Bool :=
  (List.range ops.size).all fun j => match ops[j]? with
    | none => true
    | some o => o.after.all (fun e => !Region.binds .any e || decide (e.on < j)) && (List.range j).all fun i => match ops[i]? with
      | none => true
      | some p => ((masks ops.toList []).getD j 0).testBit i || Oper.apart ops p o
def Ord (ops : Array Oper) (i j : Nat) : Prop := ((masks ops.toList []).getD j 0).testBit i = true
theorem regOk_back {ops : Array Oper} (h : regOk ops = true) {j : Nat} {o : Oper} (ho : ops[j]? = some o) : ∀ e ∈ o.after, Region.binds .any e = true → e.on < j := by
  intro e he hb
  have hlt : j < ops.size := (Array.getElem?_eq_some_iff.1 ho).1
  unfold regOk at h
  have h1 := List.all_eq_true.1 h j (List.mem_range.2 hlt)
  rw [ho] at h1
  simp only [Bool.and_eq_true] at h1
  have h2 := Array.all_eq_true_iff_forall_mem.1 h1.1 e he
  simpa [hb] using h2
theorem regOk_slots {ops : Array Oper} (h : regOk ops = true) {i j : Nat} {p o : Oper} (hij : i < j) (hp : ops[i]? = some p) (ho : ops[j]? = some o) : Ord ops i j ∨ Oper.apart ops p o = true := by
  have hlt : j < ops.size := (Array.getElem?_eq_some_iff.1 ho).1
  unfold regOk at h
  have h1 := List.all_eq_true.1 h j (List.mem_range.2 hlt)
  rw [ho] at h1
  simp only [Bool.and_eq_true] at h1
  have h2 := List.all_eq_true.1 h1.2 i (List.mem_range.2 hij)
  rw [hp] at h2
  unfold Ord
  simpa only [Bool.or_eq_true] using h2
theorem sees_looks {ops : Array Oper} {o : Oper} {t : Nat} (h : Sees ops o t) : t ∈ o.looksAt ops := by
  unfold Oper.looksAt
  rcases h with h | ⟨j, w, g, h1, h2, h3⟩
  · exact List.mem_append_left _ (List.mem_filterMap.2 ⟨.tmp t, by simpa using h, rfl⟩)
  · refine List.mem_append_right _ ?_
    rw [h1]
    simp [h2, h3]
/-- two that meet in a block -/
def Conf (x y : Lg) : Prop := (∃ b ∈ x.T, b ∈ y.rd) ∨ (∃ b ∈ y.T, b ∈ x.rd) ∨ (∃ b ∈ y.rd, x.n0 ≤ b ∧ b < x.n1)
theorem meetN_iff : ∀ {l m : List Nat}, meetN l m = true ↔ ∃ b ∈ l, b ∈ m
  | [], m => by simp [meetN]
  | x :: l, m => by
    unfold meetN
    rw [Bool.or_eq_true, memN_iff, meetN_iff]
    simp
theorem inN_iff : ∀ {l : List Nat} {a b : Nat}, inN l a b = true ↔ ∃ x ∈ l, a ≤ x ∧ x < b
  | [], a, b => by simp [inN]
  | x :: l, a, b => by
    unfold inN
    rw [Bool.or_eq_true, inN_iff, Bool.and_eq_true]
    have e1 : Nat.ble a x = true ↔ a ≤ x := ⟨Nat.le_of_ble_eq_true, Nat.ble_eq_true_of_le⟩
    have e2 : Nat.blt x b = true ↔ x < b := ⟨Nat.le_of_ble_eq_true, fun h => Nat.ble_eq_true_of_le h⟩
    rw [e1, e2]
    simp
theorem anyB_false : ∀ {l : List Nat} {n : Nat}, anyB l n = false → ∀ b ∈ l, b < n
  | [], n, _ => by simp
  | x :: l, n, h => by
    unfold anyB at h
    rw [Bool.or_eq_false_iff] at h
    intro b hb
    rcases List.mem_cons.1 hb with rfl | hb
    · rcases Nat.lt_or_ge b n with h' | h'
      · exact h'
      · rw [Nat.ble_eq_true_of_le h'] at h
        cases h.1
    · exact anyB_false h.2 b hb
theorem anyT_false : ∀ {l : List Lg} {n : Nat}, anyT n l = false → ∀ x ∈ l, x.T = [] ∧ ∀ b ∈ x.rd, b < n
  | [], n, _ => by simp
  | y :: l, n, h => by
    unfold anyT at h
    rw [Bool.or_eq_false_iff] at h
    intro x hx
    rcases List.mem_cons.1 hx with rfl | hx
    · have h1 := h.1
      split at h1
      · rename_i hT
        exact ⟨hT, anyB_false h1⟩
      · cases h1
    · exact anyT_false h.2 x hx
theorem okOne_spec {ms : List Nat} {j : Nat} {x : Lg} : ∀ {l : List Lg} {i : Nat}, okOne ms j x i l = true → ∀ (k : Nat) (y : Lg), l[k]? = some y → (ms.getD j 0).testBit (i + k) = true ∨ ¬ Conf y x
  | [], _, _ => by simp
  | z :: l, i, h => by
    unfold okOne at h
    rw [Bool.and_eq_true] at h
    intro k y hy
    cases k with
    | zero =>
      simp only [List.getElem?_cons_zero, Option.some.injEq] at hy
      subst hy
      have h0 := h.1
      rw [Bool.or_eq_true] at h0
      rcases h0 with h1 | h1
      · exact .inl h1
      · right
        intro hc
        have : (meetN z.T x.rd || meetN x.T z.rd || inN x.rd z.n0 z.n1) = true := by
          rw [Bool.or_eq_true, Bool.or_eq_true, meetN_iff, meetN_iff, inN_iff]
          rcases hc with hc | hc | hc
          · exact .inl (.inl hc)
          · exact .inl (.inr hc)
          · exact .inr hc
        rw [this] at h1
        cases h1
    | succ k =>
      have := okOne_spec h.2 k y (by simpa using hy)
      rwa [show i + (k + 1) = Nat.succ i + k by omega]
theorem okAll_spec {ms : List Nat} {all : List Lg} : ∀ {l : List Lg} {j : Nat}, okAll ms all j l = true → ∀ (k : Nat) (x : Lg), l[k]? = some x → okOne ms (j + k) x 0 (all.take (j + k)) = true
  | [], _, _ => by simp
  | y :: l, j, h => by
    unfold okAll at h
    rw [Bool.and_eq_true] at h
    intro k x hx
    cases k with
    | zero =>
      simp only [List.getElem?_cons_zero, Option.some.injEq] at hx
      subst hx
      exact h.1
    | succ k =>
      have := okAll_spec h.2 k x (by simpa using hx)
      rwa [show j + (k + 1) = Nat.succ j + k by omega]
section
variable {P : Program} {s : Nat → Value} {c : Cfg} {call : CallF} {n0 : Nat} {ops : Array Oper} {xs : List Sp} {st st' : St}
theorem ord_of {draw : Bool} (hS : Steps n0 st xs st') (h : (match draw && anyT st.n ((xs.map Sp.log).reverse ++ []) with
    | false => some st'
    | true => match okAll (masks ops.toList []) ((xs.map Sp.log).reverse ++ []).reverse 0 ((xs.map Sp.log).reverse ++ []).reverse with
      | true => some st'
      | false => none) = some st') (hd : draw = true) : ∀ (i j : Nat) (x y : Sp), i < j → xs[i]? = some x → xs[j]? = some y → Ord ops i j ∨ ¬ Conf x.log y.log := by
  intro i j x y hij hx hy
  simp only [List.append_nil, List.reverse_reverse, hd, Bool.true_and] at h
  split at h
  · rename_i ha
    right
    have h1 := anyT_false ha x.log (by simpa using ⟨x, List.mem_of_getElem? hx, rfl⟩)
    have h2 := anyT_false ha y.log (by simpa using ⟨y, List.mem_of_getElem? hy, rfl⟩)
    have h3 := (hS.stat i x hx).2.2.1
    rintro (⟨b, hb, _⟩ | ⟨b, hb, _⟩ | ⟨b, hb, hb2, _⟩)
    · rw [h1.1] at hb; cases hb
    · rw [h2.1] at hb; cases hb
    · have := h2.2 b hb
      simp only [Sp.log] at hb2
      omega
  · split at h
    · rename_i ha
      have h1 := okAll_spec ha j y.log (by simp [hy])
      rw [Nat.zero_add] at h1
      have h2 := okOne_spec h1 i x.log (by rw [List.getElem?_take_of_lt hij]; simp [hx])
      rwa [Nat.zero_add] at h2
    · cases h
theorem Cur.congr {S S' : Nat → Prop} {mk tc : Sp → Prop} {ini : Prop} (hS : ∀ (j : Nat) (x : Sp), xs[j]? = some x → (S j ↔ S' j)) (h : Cur S xs mk tc ini) : Cur S' xs mk tc ini := by
  rcases h with ⟨j, y, h1, h2, h3, h4⟩ | ⟨h1, h2⟩
  · exact .inl ⟨j, y, (hS j y h2).1 h1, h2, h3, fun i z hi hj hz => h4 i z ((hS i z hz).2 hi) hj hz⟩
  · exact .inr ⟨h1, fun i z hi hz => h2 i z ((hS i z hz).2 hi) hz⟩
def On (listed : Array Bool) (j : Nat) : Prop := listed.getD j false = true
structure AnyInv (s : Nat → Value) (ops : Array Oper) (xs : List Sp) (st st' : St) (r0 : Ren) (n0 : Nat) (W0 : World) (Tf : List Nat) (N : Nat) (listed : Array Bool) (r : Ren) (b : Act) (W : World) : Prop where
  size : listed.size = ops.size
  down : DownC ops (On listed)
  post : Post r0 n0 W0 Tf r N W
  free : ∀ (j : Nat) (x : Sp), xs[j]? = some x → ¬ On listed j → Free r x.st.n x.out.nx
  freeN : Free r st'.n N
  fits : FitsP s r (fun p => Cur (On listed) xs (mkH p) (tcH p.1) (p ∈ st.H)) W
  defers : b.defers = []
  tsize : b.tmps.size = st.sz
  at' : ∀ t v, Cur (On listed) xs (mkS t v) (tcS t) (lookT st.env st.sz t = some v) → v.d s r = some (b.tmps.getD t undef)
theorem cnt_le (p q : Nat → Bool) : ∀ n, (∀ j, j < n → p j = q j) → ((List.range n).filter p).length = ((List.range n).filter q).length := fun n h => by
  rw [List.filter_congr fun j hj => h j (List.mem_range.1 hj)]
theorem cnt_one (p q : Nat → Bool) (i : Nat) (hp : p i = true) (hq : q i = false) (h : ∀ j, j ≠ i → p j = q j) : ∀ n, i < n → ((List.range n).filter p).length = ((List.range n).filter q).length + 1
  | 0, hi => by omega
  | n + 1, hi => by
    rw [List.range_succ, List.filter_append, List.filter_append, List.length_append, List.length_append]
    by_cases hin : i = n
    · subst hin
      rw [cnt_le p q i fun j hj => h j (by omega)]
      simp [hp, hq]
    · rw [cnt_one p q i hp hq h n (by omega)]
      simp only [List.filter_cons, List.filter_nil, h n (fun e => hin e.symm)]
      split <;> simp
theorem least1 {n : Nat} (p : Nat → Bool) (h : ∃ i, i < n ∧ p i = true) : ∃ i, i < n ∧ p i = true ∧ ∀ j, j < i → p j = false := by
  induction n with
  | zero => obtain ⟨i, hi, _⟩ := h; omega
  | succ n ih =>
    by_cases h' : ∃ i, i < n ∧ p i = true
    · obtain ⟨i, h1, h2, h3⟩ := ih h'
      exact ⟨i, by omega, h2, h3⟩
    · obtain ⟨i, h1, h2⟩ := h
      have e : i = n := by
        rcases Nat.lt_or_ge i n with h4 | h4
        · exact absurd ⟨i, h4, h2⟩ h'
        · omega
      subst e
      refine ⟨i, h1, h2, fun j hj => ?_⟩
      cases hpj : p j with
      | false => rfl
      | true => exact absurd ⟨j, hj, hpj⟩ h'
theorem any_go (hcall : CallsOk P s call) (hc : CfgOk P s c) (hreg : regOk ops = true) (hch : Chain c call n0 ops ops.toList st xs st') (hl : Low st.H st.n) (hn : n0 ≤ st.n) {N : Nat} (hN : st'.n ≤ N) {Tf : List Nat} (hT : ∀ b ∈ st'.T, b ∈ Tf)
    (hord : ∀ (i j : Nat) (x y : Sp), i < j → xs[i]? = some x → xs[j]? = some y → Ord ops i j ∨ ¬ Conf x.log y.log) {r0 : Ren} {W0 : World} {Q : Exit → Act → World → Prop}
    (hQ : ∀ r' a' W', Rel s r0 n0 W0 Tf N r' st' a' W' → Q .normal a' W') :
    ∀ (f : Nat) (listed : Array Bool) (r : Ren) (b : Act) (W : World), AnyInv s ops xs st st' r0 n0 W0 Tf N listed r b W → ((List.range ops.size).filter fun i => !listed.getD i false).length = f → wpAny P .any ops Q f listed b W := by
  have hS := chain_steps hcall hc hch hl hn
  obtain ⟨hlen, hstep⟩ := chain_at hch
  have hlen : xs.length = ops.size := by simpa using hlen
  have hH := fun p => chain_H hcall hc (p := p) hch hl hn
  have hE := fun t v => chain_S (t := t) (v := v) hch
  intro f
  induction f with
  | zero =>
    intro listed r b W inv hf
    have hall : ∀ i, i < ops.size → listed.getD i false = true := by
      intro i hi
      have h1 : (List.range ops.size).filter (fun i => !listed.getD i false) = [] := List.length_eq_zero_iff.1 hf
      have h2 := List.filter_eq_nil_iff.1 h1 i (List.mem_range.2 hi)
      simpa using h2
    have hon : ∀ (j : Nat) (x : Sp), xs[j]? = some x → (True ↔ On listed j) := by
      intro j x hx
      have : j < xs.length := (List.getElem?_eq_some_iff.1 hx).1
      exact ⟨fun _ => hall j (by omega), fun _ => trivial⟩
    refine ⟨?_, hQ r b W ⟨inv.post, inv.freeN, inv.fits.of fun p hp => ((hH p).2 hp).congr hon, inv.defers, by rw [inv.tsize, hS.sz], fun t v hv => inv.at' t v (((hE t v).2 hv).congr hon)⟩⟩
    cases hr : Region.ready .any ops listed with
    | nil => rfl
    | cons i l =>
      have hi : i ∈ Region.ready .any ops listed := by rw [hr]; simp
      obtain ⟨h1, o, ho, _⟩ := mem_ready.1 hi
      have hlt : i < ops.size := (Array.getElem?_eq_some_iff.1 ho).1
      have h2 := hall i hlt
      have h3 := getD_both h1
      rw [h2] at h3
      cases h3
  | succ f ih =>
    intro listed r b W inv hf
    have hun : ∃ i, i < ops.size ∧ (!listed.getD i false) = true := by
      by_cases hx : ∃ i, i < ops.size ∧ (!listed.getD i false) = true
      · exact hx
      · have h1 : (List.range ops.size).filter (fun i => !listed.getD i false) = [] := List.filter_eq_nil_iff.2 fun i hi h' => hx ⟨i, List.mem_range.1 hi, h'⟩
        rw [h1] at hf
        cases hf
    obtain ⟨i0, h01, h02, h03⟩ := least1 _ hun
    have hr0 : i0 ∈ Region.ready .any ops listed := by
      obtain ⟨o, ho⟩ : ∃ o, ops[i0]? = some o := ⟨_, Array.getElem?_eq_getElem h01⟩
      refine mem_ready.2 ⟨getD_in (by rw [inv.size]; exact h01) (by simpa using h02), o, ho, fun e he hb => ?_⟩
      have h4 := regOk_back hreg ho e he hb
      have h5 := h03 e.on h4
      simpa using h5
    refine ⟨fun h0 => (by rw [h0] at hr0; cases hr0), fun i hi => ?_⟩
    obtain ⟨hli, o, ho, hall⟩ := mem_ready.1 hi
    have hlt : i < ops.size := (Array.getElem?_eq_some_iff.1 ho).1
    have hlf : listed.getD i false = false := getD_both hli
    have hnot : ¬ On listed i := fun h => by rw [On, hlf] at h; cases h
    obtain ⟨x, hx⟩ : ∃ x, xs[i]? = some x := ⟨_, List.getElem?_eq_getElem (by omega)⟩
    have hxs := hstep i o x (by simpa using ho) hx
    obtain ⟨hst, hxl, hxn, hxN, hxz, hxT⟩ := hS.stat i x hx
    have hle := hst.le
    have hbef : ∀ j, Ord ops j i → On listed j := fun j h => ord_in inv.down i o ho hall j h
    have haft : ∀ j, On listed j → ¬ Ord ops i j := fun j hj h => by
      have hjlt : j < ops.size := by
        rcases Nat.lt_or_ge j listed.size with h' | h'
        · rw [← inv.size]; exact h'
        · unfold On at hj
          simp [Array.getElem?_eq_none h'] at hj
      obtain ⟨p, hp⟩ : ∃ p, ops[j]? = some p := ⟨_, Array.getElem?_eq_getElem hjlt⟩
      exact hnot (ord_in inv.down j p hp (fun e he hb => inv.down j p hj hp e he hb) i h)
    have hlt' : ∀ (j : Nat) (y : Sp), xs[j]? = some y → ∃ p, ops[j]? = some p ∧ y.dst = p.dst := by
      intro j y hy
      have : j < xs.length := (List.getElem?_eq_some_iff.1 hy).1
      have hj : j < ops.size := by omega
      exact ⟨ops[j], Array.getElem?_eq_getElem hj, (hstep j ops[j] y (by simp [hj]) hy).dst⟩
    have hgt : ∀ j, On listed j → i ≤ j → i < j := fun j hj h => by
      rcases Nat.lt_or_ge i j with h' | h'
      · exact h'
      · have : j = i := by omega
        exact absurd (this ▸ hj) hnot
    -- blocks touched
    have hrdn : ∀ p ∈ x.out.rd, p.1 ∈ x.log.rd := fun p hp => namesH_mem.2 ⟨p.2, hp⟩
    have hTrd : ∀ (y : Sp), (∀ b ∈ y.out.T, ∃ k, (b, k) ∈ y.out.rd) → ∀ b ∈ y.out.T, b ∈ y.log.rd := fun y h b hb => namesH_mem.2 (h b hb)
    have hcafter : ∀ (j : Nat) (y : Sp), On listed j → i < j → xs[j]? = some y → ¬ Conf x.log y.log := fun j y hj hij hy => ((hord i j x y hij hx hy).resolve_left (haft j hj))
    have hfits : Fits s r x.out.rd W := inv.fits.of fun p hp => by
      refine ((hH p).1 i x hx (hst.rd p hp)).move (fun j y hj hy hm => ?_) (fun j z hj hij hz ht => ?_)
      · rcases hord j i y x hj hy hx with h | h
        · exact hbef j h
        · exfalso
          apply h
          rcases List.mem_append.1 hm with hm | hm
          · have := (hS.stat j y hy).1.news p hm
            exact .inr (.inr ⟨p.1, hrdn p hp, this.1, this.2⟩)
          · exact .inl ⟨p.1, (hS.stat j y hy).1.U p hm, hrdn p hp⟩
      · exact hcafter j z hj (hgt j hj hij) hz (.inr (.inl ⟨p.1, ht, hrdn p hp⟩))
    have hsee : ∀ t v, Sees ops o t → lookT x.st.env x.st.sz t = some v → v.d s r = some (b.tmps.getD t undef) := by
      intro t v hs hv
      have hs := sees_looks hs
      refine inv.at' t v (((hE t v).1 i x hx hv).move (fun j y hj hy hm => ?_) (fun j z hj hij hz ht => ?_))
      · obtain ⟨p, hp, hpd⟩ := hlt' j y hy
        rcases regOk_slots hreg hj hp ho with h | h
        · exact hbef j h
        · exact absurd hs ((Oper.apart_spec h).1 t (hpd ▸ hm.1))
      · obtain ⟨p, hp, hpd⟩ := hlt' j z hz
        rcases regOk_slots hreg (hgt j hj hij) ho hp with h | h
        · exact haft j hj h
        · exact absurd hs ((Oper.apart_spec h).2.2 t (hpd ▸ ht))
    unfold wpOp
    rw [ho]
    refine step_wp hcall hc hxs hxl (by rw [inv.tsize, hxz]) hsee (inv.free i x hx hnot) hfits fun r' V W' hP hV hF => ?_
    have hfree := inv.free i x hx hnot
    have hsub := hP.sub hfree
    have hset : ∀ j, j ≠ i → (listed.setIfInBounds i true).getD j false = listed.getD j false := fun j hj => getD_set_ne false (Ne.symm hj)
    have hseti : (listed.setIfInBounds i true).getD i false = true := by
      have : i < listed.size := by rw [inv.size]; omega
      simp [this]
    have hS' : ∀ j, On (listed.setIfInBounds i true) j ↔ j = i ∨ On listed j := by
      intro j
      unfold On
      by_cases hj : j = i
      · subst hj
        simp only [hseti, true_or]
      · rw [hset j hj]
        simp [hj]
    refine ih _ r' _ W' ⟨by simp [inv.size], ?_, ?_, ?_, ?_, ?_, ?_, ?_, ?_⟩ ?_
    · intro j p hj hp e he hb
      rcases (hS' j).1 hj with rfl | hj
      · rw [ho] at hp
        injection hp with hp
        subst hp
        exact (hS' _).2 (.inr (hall e he hb))
      · exact (hS' _).2 (.inr (inv.down j p hj hp e he hb))
    · refine inv.post.inn hP (by omega) (by omega) fun b hb => ⟨?_, fun hbn => hT b (hxT b hb hbn)⟩
      obtain ⟨k, hk⟩ := hst.T b hb
      have := hxl _ (hst.rd _ hk)
      simp only at this
      omega
    · intro j y hy hj b hb1 hb2
      have hj' : ¬ On listed j := fun h => hj ((hS' j).2 (.inr h))
      have hji : j ≠ i := fun e => hj ((hS' j).2 (.inl e))
      have hout : b < x.st.n ∨ x.out.nx ≤ b := by
        rcases Nat.lt_or_ge j i with h | h
        · have := hS.mono j i y x h hy hx
          omega
        · have := hS.mono i j x y (by omega) hx hy
          omega
      rw [hP.ext b hout]
      exact inv.free j y hy hj' b hb1 hb2
    · intro b h1 h2
      rw [hP.ext b (.inr (by omega))]
      exact inv.freeN b h1 h2
    · refine fitsP_next inv.fits (fun p hp => ?_) hst.news hst.U hst.T (fun p hp => ?_) hP hfree hF (fun p hp => ?_)
      · refine ((hH p).1 i x hx (hst.rd p hp)).move (fun j y hj hy hm => ?_) (fun j z hj hij hz ht => ?_)
        · rcases hord j i y x hj hy hx with h | h
          · exact hbef j h
          · exfalso
            apply h
            rcases List.mem_append.1 hm with hm | hm
            · have := (hS.stat j y hy).1.news p hm
              exact .inr (.inr ⟨p.1, hrdn p hp, this.1, this.2⟩)
            · exact .inl ⟨p.1, (hS.stat j y hy).1.U p hm, hrdn p hp⟩
        · exact hcafter j z hj (hgt j hj hij) hz (.inr (.inl ⟨p.1, ht, hrdn p hp⟩))
      · rcases hp with ⟨j, y, hj, hy, hm, _⟩ | ⟨h1, _⟩
        · have hyst := (hS.stat j y hy).1
          have hyl := (hS.stat j y hy).2.1
          rcases List.mem_append.1 hm with hm | hm
          · have h1 := hyst.news p hm
            rcases Nat.lt_or_ge j i with h | h
            · have := hS.mono j i y x h hy hx
              omega
            · have := hS.mono i j x y (hgt j hj h) hx hy
              omega
          · have h1 := hyst.U p hm
            obtain ⟨k, hk⟩ := hyst.T p.1 h1
            have h2 := hyl _ (hyst.rd _ hk)
            simp only at h2
            rcases Nat.lt_or_ge j i with h | h
            · have h3 := hS.mono j i y x h hy hx
              have h4 := hyst.le
              omega
            · have hij := hgt j hj h
              have h3 := hcafter j y hj hij hy
              rcases Nat.lt_or_ge p.1 x.st.n with h4 | h4
              · exact .inl h4
              · rcases Nat.lt_or_ge p.1 x.out.nx with h5 | h5
                · exact absurd (.inr (.inr ⟨p.1, namesH_mem.2 ⟨k, hk⟩, h4, h5⟩)) h3
                · exact .inr h5
        · have := hl p h1
          omega
      · rcases Cur.more hx hS' hp with h | ⟨h1, h2⟩
        · exact .inl h
        · refine .inr ⟨h1, fun ht => ?_⟩
          obtain ⟨j, y, hj, hij, hy, hm⟩ := h2 ht
          have hyst := (hS.stat j y hy).1
          obtain ⟨k, hk⟩ := hst.T p.1 ht
          rcases List.mem_append.1 hm with hm | hm
          · have h3 := hyst.news p hm
            have h4 := hS.mono i j x y hij hx hy
            have h5 := hxl _ (hst.rd _ hk)
            simp only at h5
            omega
          · exact hcafter j y hj hij hy (.inr (.inl ⟨p.1, hyst.U p hm, namesH_mem.2 ⟨k, hk⟩⟩))
    · rw [put_tdefers]; exact inv.defers
    · rw [put_tsize]; exact inv.tsize
    · intro t v hcur
      rcases Cur.more hx hS' hcur with ⟨h1, h2⟩ | ⟨h1, h2⟩
      · subst h2
        rw [h1, put_getD_same]
        · exact hV
        · have hput := hxs.put
          rw [h1] at hput
          rw [inv.tsize, ← hxz]
          exact (putT_some hput).1
      · have hne : x.dst ≠ some t := by
          intro hd
          obtain ⟨j, y, hj, hij, hy, hm⟩ := h2 hd
          obtain ⟨p, hp, hpd⟩ := hlt' j y hy
          rcases regOk_slots hreg hij ho hp with h | h
          · exact haft j hj h
          · exact (Oper.apart_spec h).2.1 t (hxs.dst ▸ hd) (hpd ▸ hm.1)
        rw [put_getD hne]
        exact CV.d_sub hsub (inv.at' t v h1)
    · have h1 := cnt_one (fun j => !listed.getD j false) (fun j => !(listed.setIfInBounds i true).getD j false) i (by simp only [hlf, Bool.not_false]) (by simp only [hseti, Bool.not_true]) (fun j hj => by simp only [hset j hj]) ops.size hlt
      omega
/-- a region, as it is reckoned -/
theorem region_wp (hm : P.follows .mixedOrders = true) (hcall : CallsOk P s call) (hc : CfgOk P s c) {id : Nat} {draw : Bool} (hreg : draw = true → regOk ops = true) (h : evRegion c call n0 ops draw st = some st') (hl : Low st.H st.n) (hn : n0 ≤ st.n) :
    (∃ xs, Steps n0 st xs st') ∧ ∀ {N : Nat} {Tf : List Nat} {r0 : Ren} {W0 : World} {Q : Exit → Act → World → Prop}, st'.n ≤ N → (∀ b ∈ st'.T, b ∈ Tf) → ∀ {r : Ren} {a : Act} {W : World}, Rel s r0 n0 W0 Tf N r st a W → (∀ r' a' W', Rel s r0 n0 W0 Tf N r' st' a' W' → Q .normal a' W') → (Code.region id ops draw).wp P Q a W := by
  unfold evRegion at h
  split at h
  · cases h
  · rename_i st1 lg he
    obtain ⟨xs, hch, hlg⟩ := evSeq_chain he
    have hst1 : st1 = st' := by
      split at h
      · injection h
      · split at h
        · injection h
        · cases h
    subst hst1
    have hS := chain_steps hcall hc hch hl hn
    refine ⟨⟨xs, hS⟩, ?_⟩
    intro N Tf r0 W0 Q hN hT r a W hR hQ
    cases draw with
    | false => exact wp_region_list (chain_wp hcall hc hch hl hn hN hT hR hQ)
    | true =>
      subst hlg
      have hord := ord_of hS h rfl
      refine wp_region_any hm ?_
      have hcount : ((List.range ops.size).filter fun i => !(Array.replicate ops.size false).getD i false).length = ops.size := by
        rw [cnt_le _ (fun _ => true) ops.size (fun j _ => by rw [getD_replicate_false]; rfl), List.filter_eq_self.2 (fun _ _ => rfl), List.length_range]
      have hno : ∀ j, ¬ On (Array.replicate ops.size false) j := fun j h => by rw [On, getD_replicate_false] at h; cases h
      have hle := hS.le
      have hdrew := Post.drew r st.n W
      have hfree0 : Free r st.n st.n := fun b h1 h2 => by omega
      refine any_go hcall hc (hreg rfl) hch hl hn hN hT hord hQ ops.size _ r a _ ⟨by simp, fun j o hj => absurd hj (hno j), ?_, fun j x hx _ b h1 h2 => ?_, fun b h1 h2 => hR.free b (by omega) h2, ?_, hR.env.defers, hR.env.size, fun t v hcur => ?_⟩ hcount
      · exact hR.post.inn hdrew hn (Nat.le_trans hle hN) (by simp)
      · have h3 := (hS.stat j x hx).2.2.1
        have h4 := (hS.stat j x hx).2.2.2.1
        exact hR.free b (by omega) (by omega)
      · refine fitsP_next (out := noOut st.n) hR.fits.toP (by simp [noOut]) (by simp [noOut]) (by simp [noOut]) (by simp [noOut]) (fun p hp => .inl (hl p hp)) hdrew hfree0 (by simpa [noOut] using fits_nil) fun p hp => .inr ⟨?_, by simp [noOut]⟩
        exact (hp.congr (S' := fun _ => False) fun j _ _ => ⟨fun h => hno j h, False.elim⟩).none
      · exact hR.env.at' t v (hcur.congr (S' := fun _ => False) fun j _ _ => ⟨fun h => hno j h, False.elim⟩).none
end
end Go.Proofs.YtmlpimckfneliaaGreat.Ev
