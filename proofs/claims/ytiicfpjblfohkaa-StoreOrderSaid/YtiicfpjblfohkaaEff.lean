/- A region that draws its order, some of whose head operations turn memory one behind the other (calls), all others being quiet in a class of worlds; one walk serves every order. -/
import Derived.Test.YtiicfpjblfohkaaLoose
namespace Go.Flow
open Go Go.RowKit

section
variable {P : Program} {ops : Array Oper} {md : Region.Mode} {Q : Exit → Act → World → Prop} {C : World → Prop}

/-- What must come up ahead of operation i (and i itself), looking d places down. -/
def anc (md : Region.Mode) (ops : Array Oper) (i : Nat) : Nat → List Nat
  | 0 => [i]
  | d + 1 => if (anc md ops i d).any (fun m => Region.waitsFor md ops m (i - (d + 1))) then (i - (d + 1)) :: anc md ops i d else anc md ops i d

theorem anc_listed {n i : Nat} {listed : Array Bool} (inv : HeadInv md ops n listed) (hi : listed.getD i false = true) : ∀ d, ∀ j ∈ anc md ops i d, listed.getD j false = true
  | 0, j, hj => by simp only [anc, List.mem_singleton] at hj; subst hj; exact hi
  | d + 1, j, hj => by
    simp only [anc] at hj
    split at hj
    · rename_i ha
      rcases List.mem_cons.1 hj with rfl | hj
      · obtain ⟨m, hm, hw⟩ := List.any_eq_true.1 ha
        obtain ⟨o, ho, e, he, hb, hon⟩ := Region.waitsFor_spec hw
        exact hon ▸ inv.closed m o ho (anc_listed inv hi d m hm) e he hb
      · exact anc_listed inv hi d j hj
    · exact anc_listed inv hi d j hj
theorem anc_ready {n i : Nat} {listed : Array Bool} (inv : HeadInv md ops n listed) (hi : i ∈ Region.ready md ops listed) : ∀ d, ∀ j ∈ anc md ops i d, j = i ∨ listed.getD j false = true
  | 0, j, hj => by simp only [anc, List.mem_singleton] at hj; exact .inl hj
  | d + 1, j, hj => by
    simp only [anc] at hj
    split at hj
    · rename_i ha
      rcases List.mem_cons.1 hj with rfl | hj
      · obtain ⟨m, hm, hw⟩ := List.any_eq_true.1 ha
        obtain ⟨o, ho, e, he, hb, hon⟩ := Region.waitsFor_spec hw
        rcases anc_ready inv hi d m hm with rfl | hl
        · obtain ⟨_, o', ho', hall⟩ := mem_ready.1 hi
          have : o' = o := Option.some.inj (ho'.symm.trans ho)
          subst this
          exact .inr (hon ▸ hall e he hb)
        · exact .inr (hon ▸ inv.closed m o ho hl e he hb)
      · exact anc_ready inv hi d j hj
    · exact anc_ready inv hi d j hj

/-- The head's form, asked of the text alone. 'ef': what turns memory; 'lo': those of them whose value is not named. -/
def headB2 (md : Region.Mode) (ops : Array Oper) (n : Nat) (ef lo : List Nat) : Bool :=
  ((List.range n).all fun i => match ops[i]? with
    | none => false
    | some o =>
      (o.after.all fun e => !Region.binds md e || decide (e.on < i)) &&
      ((o.looksAt ops).all fun t => (List.range n).all fun j => match ops[j]? with
        | none => false
        | some oj => oj.dst != some t || (!lo.contains j && Region.waitsFor md ops i j)) &&
      ((List.range n).all fun j => decide (j = i) || (match ops[j]? with
        | none => false
        | some oj => o.dst == none || oj.dst != o.dst))) &&
  (ef.all fun i => ef.all fun j => decide (i ≤ j) || (anc md ops i i).contains j) && (lo.all fun i => ef.contains i) && (ef.all fun i => decide (i < n))

structure HeadOk2 (md : Region.Mode) (ops : Array Oper) (n : Nat) (ef lo : List Nat) : Prop where
  has : ∀ i, i < n → ∃ o, ops[i]? = some o
  back : ∀ i o, i < n → ops[i]? = some o → ∀ e ∈ o.after, Region.binds md e = true → e.on < i
  looks : ∀ i o, i < n → ops[i]? = some o → ∀ t ∈ o.looksAt ops, ∀ j oj, j < n → ops[j]? = some oj → oj.dst = some t → j ∉ lo ∧ Region.waitsFor md ops i j = true
  uniq : ∀ i o, i < n → ops[i]? = some o → ∀ j oj, j < n → j ≠ i → ops[j]? = some oj → ∀ t, o.dst = some t → oj.dst ≠ some t
  row : ∀ i ∈ ef, ∀ j ∈ ef, j < i → j ∈ anc md ops i i
  loEf : ∀ i ∈ lo, i ∈ ef
  efLt : ∀ i ∈ ef, i < n

theorem headOk2_of {n : Nat} {ef lo : List Nat} (h : headB2 md ops n ef lo = true) : HeadOk2 md ops n ef lo := by
  simp only [headB2, Bool.and_eq_true] at h
  obtain ⟨⟨⟨h, hr⟩, hle⟩, hef⟩ := h
  have h0 : ∀ i, i < n → _ := fun i hi => List.all_eq_true.1 h i (List.mem_range.2 hi)
  refine ⟨?_, ?_, ?_, ?_, ?_, ?_, ?_⟩
  · intro i hi
    have := h0 i hi
    cases ho : ops[i]? with
    | none => simp [ho] at this
    | some o => exact ⟨o, rfl⟩
  · intro i o hi ho e he hb
    have := h0 i hi
    simp only [ho, Bool.and_eq_true] at this
    have h1 := Array.all_eq_true'.1 this.1.1 e he
    simpa [hb] using h1
  · intro i o hi ho t ht j oj hj hoj hd
    have := h0 i hi
    simp only [ho, Bool.and_eq_true] at this
    have h1 := List.all_eq_true.1 (List.all_eq_true.1 this.1.2 t ht) j (List.mem_range.2 hj)
    simp only [hoj, hd, bne_self_eq_false, Bool.false_or, Bool.and_eq_true, Bool.not_eq_true', List.contains_eq_mem, decide_eq_false_iff_not] at h1
    exact h1
  · intro i o hi ho j oj hj hji hoj t ht
    have := h0 i hi
    simp only [ho, Bool.and_eq_true] at this
    have h1 := List.all_eq_true.1 this.2 j (List.mem_range.2 hj)
    simp only [hji, decide_false, Bool.false_or, hoj, ht] at h1
    intro e
    rw [e] at h1
    simp at h1
  · intro i hi j hj hlt
    have h1 := List.all_eq_true.1 (List.all_eq_true.1 hr i hi) j hj
    simp only [Bool.or_eq_true, decide_eq_true_eq, List.contains_eq_mem] at h1
    exact h1.resolve_left (by omega)
  · intro i hi
    have := List.all_eq_true.1 hle i hi
    simpa using this
  · intro i hi
    have := List.all_eq_true.1 hef i hi
    simpa using this

abbrev St := (Nat → Value) → World → Prop
def Stable (S : St) : Prop := ∀ ν w w', S ν w → Grow w w' → S ν w'
def upd (ν : Nat → Value) (i : Nat) (v : Value) : Nat → Value := fun j => if j = i then v else ν j

def effUpon (P : Program) (R : Value → World → Prop) : Result Next → Prop
  | .ok (.value u) w' => R u w'
  | .ok .skip w' => R undef w'
  | .ok (.enter f args) w' => Calls P f args w' fun e w'' => ∃ u, e = .returned u ∧ R u w''
  | _ => False

def YieldsD (P : Program) (ops : Array Oper) (C : World → Prop) (o : Oper) (c : Act) (v : Value) : Prop :=
  (Region.wanted o (yielded ops c.tmps) = true ∧ ∀ w, C w → Oper.quietUpon P (Grow w) w v ((execOp c.eval o).run P w)) ∨
  (Region.wanted o (yielded ops c.tmps) = false ∧ v = undef)

/-- What operation k is shown to do in the act c. -/
def KindOk (P : Program) (ops : Array Oper) (C : World → Prop) (ef lo : List Nat) (k : Nat) (o : Oper) (c : Act) (v : Value) (S S' : St) : Prop :=
  (k ∉ ef ∧ YieldsD P ops C o c v ∧ S' = S) ∨
  (k ∈ ef ∧ k ∉ lo ∧ Region.wanted o (yielded ops c.tmps) = false ∧ v = undef ∧ S' = S) ∨
  (k ∈ ef ∧ k ∉ lo ∧ Region.wanted o (yielded ops c.tmps) = true ∧ ∀ ν w, C w → S ν w → effUpon P (fun u w' => u = v ∧ C w' ∧ S' ν w') ((execOp c.eval o).run P w)) ∨
  (k ∈ ef ∧ k ∈ lo ∧ Region.wanted o (yielded ops c.tmps) = true ∧ ∀ ν w, C w → S ν w → effUpon P (fun u w' => C w' ∧ S' (upd ν k u) w') ((execOp c.eval o).run P w))

inductive Walked2 (P : Program) (ops : Array Oper) (C : World → Prop) (ef lo : List Nat) (a0 : Act) (S0 : St) : Nat → (Nat → Value) → (Nat → St) → Act → Prop
  | start : Walked2 P ops C ef lo a0 S0 0 (fun _ => undef) (fun _ => S0) a0
  | op {i : Nat} {val : Nat → Value} {SX : Nat → St} {c : Act} {o : Oper} {v : Value} {S' : St} (h : Walked2 P ops C ef lo a0 S0 i val SX c) (ho : ops[i]? = some o) (hs : Stable S') (hk : KindOk P ops C ef lo i o c v (SX i) S') :
      Walked2 P ops C ef lo a0 S0 (i + 1) (upd val i v) (fun j => if j ≤ i then SX j else S') (if i ∈ lo then c else c.put o.dst v)

structure Facts2 (ops : Array Oper) (lo : List Nat) (a0 : Act) (m : Nat) (val : Nat → Value) (c : Act) : Prop where
  defers : c.defers = a0.defers
  size : c.tmps.size = a0.tmps.size
  at_ : ∀ j, j < m → j ∉ lo → ∀ oj, ops[j]? = some oj → ∀ t, oj.dst = some t → t < a0.tmps.size → c.tmps[t]? = some (val j)
  off : ∀ t, (∀ j, j < m → j ∉ lo → ∀ oj, ops[j]? = some oj → oj.dst ≠ some t) → c.tmps[t]? = a0.tmps[t]?

theorem Facts2.upd_val {lo : List Nat} {a0 : Act} {m i : Nat} {val : Nat → Value} {c : Act} {v : Value} (f : Facts2 ops lo a0 m val c) (h : m ≤ i) : Facts2 ops lo a0 m (upd val i v) c :=
  ⟨f.defers, f.size, fun j hj hlj oj hoj t ht hts => by
    have : j ≠ i := by omega
    simp only [upd, this, if_false]
    exact f.at_ j hj hlj oj hoj t ht hts, f.off⟩

theorem facts2_of {n : Nat} {ef lo : List Nat} {a0 : Act} {S0 : St} (H : HeadOk2 md ops n ef lo) (hS0 : Stable S0) {i : Nat} {val : Nat → Value} {SX : Nat → St} {c : Act} (hw : Walked2 P ops C ef lo a0 S0 i val SX c) : i ≤ n →
    Facts2 ops lo a0 i val c ∧ (∀ j, Stable (SX j)) ∧ (SX 0 = S0) ∧ ∀ k, k < i → ∀ ok, ops[k]? = some ok → ∃ ck, Facts2 ops lo a0 k val ck ∧ KindOk P ops C ef lo k ok ck (val k) (SX k) (SX (k + 1)) := by
  induction hw with
  | start => exact fun _ => ⟨⟨rfl, rfl, fun j hj => absurd hj (Nat.not_lt_zero _), fun t _ => rfl⟩, fun _ => hS0, rfl, fun k hk => absurd hk (Nat.not_lt_zero _)⟩
  | @op i val SX c o v S' h ho hs hk ih =>
    intro hi
    obtain ⟨F, G1, G0, G⟩ := ih (by omega)
    refine ⟨?_, ?_, by simpa using G0, ?_⟩
    · by_cases hlo : i ∈ lo
      · rw [if_pos hlo]
        refine ⟨F.defers, F.size, ?_, ?_⟩
        · intro j hj hlj oj hoj t ht hts
          by_cases hji : j = i
          · subst hji; exact absurd hlo hlj
          · simp only [upd, hji, if_false]
            exact F.at_ j (by omega) hlj oj hoj t ht hts
        · intro t ht
          exact F.off t (fun j hj hlj oj hoj => ht j (by omega) hlj oj hoj)
      · rw [if_neg hlo]
        refine ⟨(put_defers_eq ..).trans F.defers, (put_size ..).trans F.size, ?_, ?_⟩
        · intro j hj hlj oj hoj t ht hts
          by_cases hji : j = i
          · subst hji
            rw [ho] at hoj
            cases hoj
            rw [ht]
            simp only [upd, if_true]
            exact put_get_eq c v (by rw [F.size]; exact hts)
          · simp only [upd, hji, if_false]
            rw [put_get_ne c v (H.uniq j oj (by omega) hoj i o (by omega) (fun e => hji e.symm) ho t ht)]
            exact F.at_ j (by omega) hlj oj hoj t ht hts
        · intro t ht
          rw [put_get_ne c v (ht i (by omega) hlo o ho)]
          exact F.off t (fun j hj hlj oj hoj => ht j (by omega) hlj oj hoj)
    · intro j
      simp only
      split
      · exact G1 j
      · exact hs
    · intro k hk2 ok hok
      by_cases hki : k = i
      · subst hki
        rw [ho] at hok
        cases hok
        refine ⟨c, F.upd_val (Nat.le_refl _), ?_⟩
        simp only [upd, if_true, Nat.le_refl, show ¬ (k + 1 ≤ k) by omega, if_false]
        exact hk
      · obtain ⟨ck, f, g⟩ := G k (by omega) ok hok
        refine ⟨ck, f.upd_val (by omega), ?_⟩
        simp only [upd, hki, if_false, show k ≤ i by omega, show k + 1 ≤ i by omega, if_true]
        exact g

structure Inv2 (md : Region.Mode) (ops : Array Oper) (C : World → Prop) (n : Nat) (ef lo : List Nat) (a0 : Act) (val : Nat → Value) (SX : Nat → St) (listed : Array Bool) (a : Act) (w : World) (ν : Nat → Value) (m : Nat) : Prop where
  head : HeadInv md ops n listed
  cls : C w
  mle : m ≤ n
  pos : ∀ j ∈ ef, (listed.getD j false = true ↔ j < m)
  st : SX m ν w
  defers : a.defers = a0.defers
  size : a.tmps.size = a0.tmps.size
  at_ : ∀ j, j < n → listed.getD j false = true → ∀ oj, ops[j]? = some oj → ∀ t, oj.dst = some t → t < a0.tmps.size → a.tmps[t]? = some (if j ∈ lo then ν j else val j)
  off : ∀ t, (∀ j, j < n → listed.getD j false = true → ∀ oj, ops[j]? = some oj → oj.dst ≠ some t) → a.tmps[t]? = a0.tmps[t]?

section
variable {n : Nat} {ef lo : List Nat} {a0 : Act} {val : Nat → Value} {SX : Nat → St} {listed : Array Bool} {a : Act} {w w' : World} {ν ν' : Nat → Value} {m m' : Nat}

theorem Inv2.agree (I : Inv2 md ops C n ef lo a0 val SX listed a w ν m) (H : HeadOk2 md ops n ef lo)
    {i : Nat} {o : Oper} (hi : i < n) (ho : ops[i]? = some o) (hr : i ∈ Region.ready md ops listed) {c : Act} (F : Facts2 ops lo a0 i val c) : ∀ t ∈ o.looksAt ops, a.tmps[t]? = c.tmps[t]? := by
  intro t ht
  obtain ⟨_, o', ho', hall⟩ := mem_ready.1 hr
  have : o' = o := Option.some.inj (ho'.symm.trans ho)
  subst this
  by_cases hex : ∃ j oj, j < n ∧ ops[j]? = some oj ∧ oj.dst = some t
  · obtain ⟨j, oj, hj, hoj, hd⟩ := hex
    obtain ⟨h1, h2⟩ := H.looks i o' hi ho t ht j oj hj hoj hd
    obtain ⟨o2, ho2, e, he, hb, hon⟩ := Region.waitsFor_spec h2
    have : o2 = o' := Option.some.inj (ho2.symm.trans ho)
    subst this
    have hlj : listed.getD j false = true := hon ▸ hall e he hb
    have hji : j < i := hon ▸ H.back i o2 hi ho e he hb
    by_cases hts : t < a0.tmps.size
    · rw [I.at_ j hj hlj oj hoj t hd hts, F.at_ j hji h1 oj hoj t hd hts]
      simp [h1]
    · rw [Array.getElem?_eq_none (by rw [I.size]; exact Nat.le_of_not_lt hts), Array.getElem?_eq_none (by rw [F.size]; exact Nat.le_of_not_lt hts)]
  · rw [I.off t (fun j hj _ oj hoj hd => hex ⟨j, oj, hj, hoj, hd⟩), F.off t (fun j hj _ oj hoj hd => hex ⟨j, oj, by omega, hoj, hd⟩)]

theorem Inv2.put (I : Inv2 md ops C n ef lo a0 val SX listed a w ν m) (H : HeadOk2 md ops n ef lo)
    {i : Nat} {o : Oper} (hi : i < n) (ho : ops[i]? = some o) (hr : i ∈ Region.ready md ops listed) (hC : C w') (v : Value)
    (hv : v = if i ∈ lo then ν' i else val i) (hsame : ∀ j, j ≠ i → ν' j = ν j) (hm : m' ≤ n) (hpos : ∀ j ∈ ef, ((listed.setIfInBounds i true).getD j false = true ↔ j < m')) (hst : SX m' ν' w') :
    Inv2 md ops C n ef lo a0 val SX (listed.setIfInBounds i true) (a.put o.dst v) w' ν' m' := by
  refine ⟨I.head.set hr hi, hC, hm, hpos, hst, (put_defers_eq ..).trans I.defers, (put_size ..).trans I.size, ?_, ?_⟩
  · intro j hj hl oj hoj t ht hts
    by_cases hji : j = i
    · subst hji
      rw [ho] at hoj
      cases hoj
      rw [ht, put_get_eq a v (by rw [I.size]; exact hts), hv]
    · rw [getD_set_ne false (fun e => hji e.symm)] at hl
      rw [put_get_ne a v (H.uniq j oj hj hoj i o hi (fun e => hji e.symm) ho t ht), I.at_ j hj hl oj hoj t ht hts, hsame j hji]
  · intro t ht
    have h1 : o.dst ≠ some t := by
      by_cases hin : i < listed.size
      · exact ht i hi (by simp [hin]) o ho
      · have := (mem_ready.1 hr).1
        simp [hin] at this
    rw [put_get_ne a v h1]
    refine I.off t (fun j hj hl oj hoj => ht j hj (getD_set_true hl) oj hoj)

/-- The least that has not come up may come up. -/
theorem least_ready2 (H : HeadOk2 md ops n ef lo) (hs : listed.size = ops.size) (hn : n < ops.size) : ∀ (k j : Nat), j ≤ k → j < n → listed.getD j false = false → Region.ready md ops listed ≠ []
  | 0, j, hjk, hj, hl => by
    have h0 : j = 0 := by omega
    subst h0
    obtain ⟨o, ho⟩ := H.has 0 hj
    intro e
    have : 0 ∈ Region.ready md ops listed := mem_ready.2 ⟨getD_in (by omega) hl, o, ho, fun e he hb => absurd (H.back 0 o hj ho e he hb) (Nat.not_lt_zero _)⟩
    rw [e] at this
    cases this
  | k + 1, j, hjk, hj, hl => by
    by_cases hb : ∃ i, i < j ∧ listed.getD i false = false
    · obtain ⟨i, hij, hli⟩ := hb
      exact least_ready2 H hs hn k i (by omega) (by omega) hli
    · obtain ⟨o, ho⟩ := H.has j hj
      intro e
      have : j ∈ Region.ready md ops listed := mem_ready.2 ⟨getD_in (by omega) hl, o, ho, fun e he hb' => by
        have hlt := H.back j o hj ho e he hb'
        cases hc : listed.getD e.on false with
        | true => rfl
        | false => exact absurd ⟨e.on, hlt, hc⟩ hb⟩
      rw [e] at this
      cases this

/-- No state turns between m and i where nothing that turns memory stands between. -/
theorem sx_const (hS : ∀ k, k < n → k ∉ ef → SX (k + 1) = SX k) : ∀ d, m + d ≤ n → (∀ j ∈ ef, m ≤ j → m + d ≤ j) → SX (m + d) = SX m
  | 0, _, _ => rfl
  | d + 1, h, hno => by
    have := hS (m + d) (by omega) (fun he => by have := hno _ he (by omega); omega)
    rw [show m + (d + 1) = (m + d) + 1 by omega, this]
    exact sx_const hS d (by omega) (fun j hj hmj => by have := hno j hj hmj; omega)

theorem wpAny_eff {g : Nat} {S0 : St} {c : Act} (H : HeadOk2 md ops n ef lo) (hsel : Region.noSelect ops = true) (hsk : Region.sinkB md ops n = true) (hch : Region.chainB md ops n = true) (hn : n < ops.size)
    (hCg : ∀ w w', C w → Grow w w' → C w') (hS0 : Stable S0)
    (hW : Walked2 P ops C ef lo a0 S0 n val SX c)
    (hT : ∀ listed a w ν m, Inv2 md ops C n ef lo a0 val SX listed a w ν m → (∀ j, j < n → listed.getD j false = true) → wpAny P md ops Q g listed a w) :
    ∀ (f : Nat) (listed : Array Bool) (a : Act) (w : World) (ν : Nat → Value) (m : Nat), Inv2 md ops C n ef lo a0 val SX listed a w ν m → unl listed n = f → wpAny P md ops Q (f + g) listed a w := by
  obtain ⟨_, hSt, _, G⟩ := facts2_of H hS0 hW (Nat.le_refl _)
  have hquiet : ∀ k, k < n → k ∉ ef → SX (k + 1) = SX k := fun k hk hne => by
    obtain ⟨ok, hok⟩ := H.has k hk
    obtain ⟨ck, _, hkk⟩ := G k hk ok hok
    rcases hkk with ⟨_, _, h⟩ | ⟨h, _⟩ | ⟨h, _⟩ | ⟨h, _⟩
    · exact h
    all_goals exact absurd h hne
  intro f
  induction f with
  | zero =>
    intro listed a w ν m I hu
    rw [Nat.zero_add]
    exact hT listed a w ν m I (unl_zero hu)
  | succ f ih =>
    intro listed a w ν m I hu
    rw [show f + 1 + g = (f + g) + 1 by omega]
    obtain ⟨j0, hj0, hl0⟩ := unl_pos (by omega : 0 < unl listed n)
    refine ⟨fun h0 => absurd h0 (least_ready2 H I.head.size hn j0 j0 (Nat.le_refl _) hj0 hl0), fun i hr => ?_⟩
    have hin : i < n := by
      rcases Nat.lt_or_ge i n with h | h
      · exact h
      · exact absurd hr (tail_waits hsk hch hn I.head _ j0 rfl hj0 (getD_in (by rw [I.head.size]; omega) hl0) i h)
    obtain ⟨hun, o, ho, _⟩ := mem_ready.1 hr
    have hun' : listed.getD i false = false := getD_both hun
    obtain ⟨ci, F, hK⟩ := G i hin o ho
    have hag := I.agree H hin ho hr F
    have he := eval_same hag (fun cs b => Region.noSelect_spec hsel i o cs b ho)
    have hwt := wanted_same hag
    have hu' : unl (listed.setIfInBounds i true) n = f := by
      have := unl_set hin (by rw [I.head.size]; omega) hun
      omega
    have hsz : i < listed.size := by rw [I.head.size]; omega
    have hset : ∀ j, j ≠ i → (listed.setIfInBounds i true).getD j false = listed.getD j false := fun j hj => getD_set_ne false (fun e => hj e.symm)
    have hseti : (listed.setIfInBounds i true).getD i false = true := by simp [hsz]
    -- an operation that turns nothing of the state
    have stays : ∀ w', C w' → SX m ν w' → i ∉ ef → i ∉ lo → wpAny P md ops Q (f + g) (listed.setIfInBounds i true) (a.put o.dst (val i)) w' := fun w' hC hs hne hnl =>
      ih _ _ _ ν m (I.put H hin ho hr hC (val i) (by simp [hnl]) (fun _ _ => rfl) I.mle (fun j hj => by
        rw [hset j (fun e => hne (e ▸ hj))]; exact I.pos j hj) hs) hu'
    -- one that does: all such ahead of it have come up, none behind it
    have front : i ∈ ef → m ≤ i ∧ SX i = SX m ∧ ∀ j ∈ ef, ((listed.setIfInBounds i true).getD j false = true ↔ j < i + 1) := fun hef => by
      have hmi : m ≤ i := by
        rcases Nat.lt_or_ge i m with h | h
        · rw [(I.pos i hef).2 h] at hun'; cases hun'
        · exact h
      have hbelow : ∀ j ∈ ef, j < i → listed.getD j false = true := fun j hj hlt => by
        rcases anc_ready I.head hr i j (H.row i hef j hj hlt) with h | h
        · omega
        · exact h
      have hbetween : ∀ j ∈ ef, m ≤ j → i ≤ j := fun j hj hmj => by
        rcases Nat.lt_or_ge j i with h | h
        · have := (I.pos j hj).1 (hbelow j hj h); omega
        · exact h
      refine ⟨hmi, ?_, fun j hj => ?_⟩
      · have := sx_const (m := m) hquiet (i - m) (by omega) (fun j hj hmj => by have := hbetween j hj hmj; omega)
        rwa [show m + (i - m) = i by omega] at this
      · rcases Nat.lt_trichotomy j i with h | h | h
        · rw [hset j (by omega), hbelow j hj h]; simp; omega
        · subst h; rw [hseti]; simp
        · rw [hset j (by omega)]
          constructor
          · intro hl
            have := anc_listed I.head hl j i (H.row j hj i hef h)
            rw [this] at hun'
            cases hun'
          · intro h2; omega
    unfold wpOp
    simp only [ho]
    rcases hK with ⟨hne, hy, hsx⟩ | ⟨hef, hnl, hwf, hvu, hsx⟩ | ⟨hef, hnl, hwt1, hq⟩ | ⟨hef, hl, hwt1, hq⟩
    · have hnl : i ∉ lo := fun h => hne (H.loEf i h)
      rcases hy with ⟨hw1, hq⟩ | ⟨hw1, hv⟩
      · rw [hwt, if_pos hw1]
        refine .inl ?_
        have h3 := hq w I.cls
        unfold Oper.wp
        rw [he]
        generalize (execOp ci.eval o).run P w = r at h3
        cases r with
        | ok x w' =>
          cases x <;> simp only [Oper.quietUpon] at h3 <;> simp only [Oper.upon]
          case value u =>
            obtain ⟨e1, e2⟩ := h3
            rw [e1, e2]
            exact stays w I.cls I.st hne hnl
          case skip =>
            obtain ⟨e1, e2⟩ := h3
            rw [e1, ← e2]
            exact stays w I.cls I.st hne hnl
          case enter fn args =>
            obtain ⟨e1, hc⟩ := h3
            rw [e1]
            exact hc.mono fun e w'' ⟨he', hw''⟩ => by subst he'; exact stays w'' (hCg _ _ I.cls hw'') (hSt m _ _ _ I.st hw'') hne hnl
        | halt x w' => simp only [Oper.quietUpon] at h3
      · rw [hwt, if_neg (by rw [hw1]; exact Bool.false_ne_true)]
        rw [← hv]
        exact stays w I.cls I.st hne hnl
    · obtain ⟨hmi, hsi, hpos⟩ := front hef
      rw [hwt, if_neg (by rw [hwf]; exact Bool.false_ne_true)]
      rw [← hvu]
      exact ih _ _ _ ν (i + 1) (I.put H hin ho hr I.cls (val i) (by simp [hnl]) (fun _ _ => rfl) (by omega) hpos (by rw [hsx, hsi]; exact I.st)) hu'
    · obtain ⟨hmi, hsi, hpos⟩ := front hef
      rw [hwt, if_pos hwt1]
      refine .inl ?_
      have h3 := hq ν w I.cls (by rw [hsi]; exact I.st)
      have next : ∀ u w', u = val i ∧ C w' ∧ SX (i + 1) ν w' → wpAny P md ops Q (f + g) (listed.setIfInBounds i true) (a.put o.dst u) w' := fun u w' ⟨h1, h2, h4⟩ =>
        ih _ _ _ ν (i + 1) (I.put H hin ho hr h2 u (by simp [hnl, h1]) (fun _ _ => rfl) (by omega) hpos h4) hu'
      unfold Oper.wp
      rw [he]
      generalize (execOp ci.eval o).run P w = r at h3
      cases r with
      | ok x w' =>
        cases x <;> simp only [effUpon] at h3 <;> simp only [Oper.upon]
        case value u => exact next u w' h3
        case skip => exact next undef w' h3
        case enter fn args =>
          exact h3.mono fun e w'' ⟨u, he', hw''⟩ => by subst he'; exact next u w'' hw''
      | halt x w' => simp only [effUpon] at h3
    · obtain ⟨hmi, hsi, hpos⟩ := front hef
      rw [hwt, if_pos hwt1]
      refine .inl ?_
      have h3 := hq ν w I.cls (by rw [hsi]; exact I.st)
      have next : ∀ u w', C w' ∧ SX (i + 1) (upd ν i u) w' → wpAny P md ops Q (f + g) (listed.setIfInBounds i true) (a.put o.dst u) w' := fun u w' ⟨h2, h4⟩ =>
        ih _ _ _ (upd ν i u) (i + 1) (I.put H hin ho hr h2 u (by simp [hl, upd]) (fun j hj => by simp [upd, hj]) (by omega) hpos h4) hu'
      unfold Oper.wp
      rw [he]
      generalize (execOp ci.eval o).run P w = r at h3
      cases r with
      | ok x w' =>
        cases x <;> simp only [effUpon] at h3 <;> simp only [Oper.upon]
        case value u => exact next u w' h3
        case skip => exact next undef w' h3
        case enter fn args =>
          exact h3.mono fun e w'' ⟨u, he', hw''⟩ => by subst he'; exact next u w'' hw''
      | halt x w' => simp only [effUpon] at h3
end

/-- The walk to be shown, in the text's order. -/
def wpEff (P : Program) (ops : Array Oper) (C : World → Prop) (ef lo : List Nat) (Qt : Act → St → Prop) : Nat → List Oper → Act → St → Prop
  | _, [], a, S => Qt a S
  | i, o :: rest, a, S => ∃ v S', Stable S' ∧ KindOk P ops C ef lo i o a v S S' ∧ wpEff P ops C ef lo Qt (i + 1) rest (if i ∈ lo then a else a.put o.dst v) S'

theorem walked2_of {ef lo : List Nat} {a0 : Act} {S0 : St} {Qt : Act → St → Prop} : ∀ (l : List Oper) (i : Nat) (val : Nat → Value) (SX : Nat → St) (c : Act), (∀ j, j < l.length → ops[i + j]? = l[j]?) → Walked2 P ops C ef lo a0 S0 i val SX c → wpEff P ops C ef lo Qt i l c (SX i) →
    ∃ val' SX' c', Walked2 P ops C ef lo a0 S0 (i + l.length) val' SX' c' ∧ Qt c' (SX' (i + l.length))
  | [], i, val, SX, c, _, hw, h => ⟨val, SX, c, hw, h⟩
  | o :: l, i, val, SX, c, hl, hw, h => by
    have ho : ops[i]? = some o := by simpa using hl 0 (by simp)
    have hl' : ∀ j, j < l.length → ops[i + 1 + j]? = l[j]? := fun j hj => by
      have := hl (j + 1) (by simp; omega)
      simpa [Nat.add_assoc, Nat.add_comm 1 j] using this
    rw [show i + (o :: l).length = (i + 1) + l.length by simp; omega]
    unfold wpEff at h
    obtain ⟨v, S', hs, hk, hr⟩ := h
    refine walked2_of l (i + 1) _ _ _ hl' (.op hw ho hs hk) ?_
    simp only [show ¬ (i + 1 ≤ i) by omega, if_false]
    exact hr

def finish2 (ops : Array Oper) (ν : Nat → Value) : List Nat → Act → Act
  | [], c => c
  | k :: l, c => finish2 ops ν l (c.put ((ops[k]?).bind (·.dst)) (ν k))

theorem finish2_defers (ν : Nat → Value) : ∀ (l : List Nat) (c : Act), (finish2 ops ν l c).defers = c.defers
  | [], _ => rfl
  | k :: l, c => (finish2_defers ν l _).trans (put_defers_eq ..)
theorem finish2_size (ν : Nat → Value) : ∀ (l : List Nat) (c : Act), (finish2 ops ν l c).tmps.size = c.tmps.size
  | [], _ => rfl
  | k :: l, c => (finish2_size ν l _).trans (put_size ..)
theorem finish2_ne (ν : Nat → Value) {t : Tmp} : ∀ (l : List Nat) (c : Act), (∀ k ∈ l, (ops[k]?).bind (·.dst) ≠ some t) → (finish2 ops ν l c).tmps[t]? = c.tmps[t]?
  | [], _, _ => rfl
  | k :: l, c, h => (finish2_ne ν l _ (fun k hk => h k (List.mem_cons_of_mem _ hk))).trans (put_get_ne c _ (h k (List.mem_cons_self ..)))
theorem finish2_hit (ν : Nat → Value) {t : Tmp} {k : Nat} (hd : (ops[k]?).bind (·.dst) = some t) : ∀ (l : List Nat) (c : Act), k ∈ l → (∀ k' ∈ l, (ops[k']?).bind (·.dst) = some t → k' = k) → t < c.tmps.size → (finish2 ops ν l c).tmps[t]? = some (ν k)
  | x :: l, c, hk, hu, ht => by
    by_cases hkl : k ∈ l
    · exact finish2_hit ν hd l _ hkl (fun k' hk' => hu k' (List.mem_cons_of_mem _ hk')) (by rw [put_size]; exact ht)
    · have hx : k = x := (List.mem_cons.1 hk).resolve_right hkl
      subst hx
      show (finish2 ops ν l _).tmps[t]? = _
      rw [finish2_ne ν l _ (fun k' hk' hd' => hkl (hu k' (List.mem_cons_of_mem _ hk') hd' ▸ hk'))]
      rw [hd]
      exact put_get_eq c _ ht

theorem finish2_eq {n : Nat} {ef lo : List Nat} {a0 : Act} {val : Nat → Value} {SX : Nat → St} {listed : Array Bool} {a c : Act} {w : World} {ν : Nat → Value} {m : Nat} (H : HeadOk2 md ops n ef lo) (I : Inv2 md ops C n ef lo a0 val SX listed a w ν m)
    (F : Facts2 ops lo a0 n val c) (hall : ∀ j, j < n → listed.getD j false = true) : a = finish2 ops ν lo c := by
  refine act_ext ?_ fun t => ?_
  · rw [finish2_defers, I.defers, F.defers]
  by_cases hex : ∃ j oj, j < n ∧ ops[j]? = some oj ∧ oj.dst = some t
  · obtain ⟨j, oj, hj, hoj, hd⟩ := hex
    have one : ∀ k ∈ lo, (ops[k]?).bind (·.dst) = some t → k = j := fun k hk hdk => by
      have hkn := H.efLt k (H.loEf k hk)
      obtain ⟨ok, hok⟩ := H.has k hkn
      by_cases e : k = j
      · exact e
      · rw [hok] at hdk
        exact absurd hdk (H.uniq j oj hj hoj k ok hkn e hok t hd)
    by_cases hts : t < a0.tmps.size
    · rw [I.at_ j hj (hall j hj) oj hoj t hd hts]
      by_cases hl : j ∈ lo
      · rw [finish2_hit ν (k := j) (by rw [hoj]; exact hd) lo c hl one (by rw [F.size]; exact hts), if_pos hl]
      · rw [finish2_ne ν lo c (fun k hk hdk => hl (one k hk hdk ▸ hk)), if_neg hl]
        exact (F.at_ j hj hl oj hoj t hd hts).symm
    · rw [Array.getElem?_eq_none (by rw [I.size]; exact Nat.le_of_not_lt hts), Array.getElem?_eq_none (by rw [finish2_size, F.size]; exact Nat.le_of_not_lt hts)]
  · rw [I.off t (fun j hj _ oj hoj hd => hex ⟨j, oj, hj, hoj, hd⟩)]
    rw [finish2_ne ν lo c (fun k hk hdk => by
      have hkn := H.efLt k (H.loEf k hk)
      obtain ⟨ok, hok⟩ := H.has k hkn
      rw [hok] at hdk
      exact hex ⟨k, ok, hkn, hok, hdk⟩)]
    exact (F.off t (fun j hj _ oj hoj hd => hex ⟨j, oj, hj, hoj, hd⟩)).symm

/-- The Bool of the whole region's text. -/
def effB (md : Region.Mode) (ops : Array Oper) (n : Nat) (ef lo : List Nat) : Bool :=
  Region.noSelect ops && decide (n < ops.size) && Region.sinkB md ops n && Region.chainB md ops n && headB2 md ops n ef lo && Region.seqB md ops (ops.size - n) n (headDone ops.size n)

theorem wp_region_eff {id : Nat} {a : Act} {w : World} {l : List Oper} (n : Nat) (ef lo : List Nat) (C : World → Prop) (S0 : St) (hm : P.follows .mixedOrders = true) (hB : effB .any l.toArray n ef lo = true)
    (hCg : ∀ w w', C w → Grow w w' → C w') (hS0 : Stable S0) (hC0 : C w) (hS : ∀ ν, S0 ν w)
    (h : wpEff P l.toArray C ef lo (fun a' S => ∀ ν w', C w' → S ν w' → wpList P l.toArray Q (l.drop n) (finish2 l.toArray ν lo a') w') 0 (l.take n) a S0) : (Code.region id l.toArray true).wp P Q a w := by
  simp only [effB, Bool.and_eq_true, decide_eq_true_eq] at hB
  obtain ⟨⟨⟨⟨⟨hsel, hn⟩, hs⟩, hc⟩, hh⟩, hseq⟩ := hB
  have H := headOk2_of hh
  have hn' : n < l.length := by simpa using hn
  have htl : (l.take n).length = n := by simp; omega
  obtain ⟨val, SX, c, hW, hQ⟩ := walked2_of (P := P) (ops := l.toArray) (C := C) (a0 := a) (S0 := S0) (l.take n) 0 _ _ a (fun j hj => by
    have hj' : j < n := by rw [htl] at hj; exact hj
    simp [hj']) .start h
  rw [Nat.zero_add, htl] at hW hQ
  obtain ⟨F, _, hSX0, G⟩ := facts2_of H hS0 hW (Nat.le_refl _)
  have inv0 : HeadInv .any l.toArray n (Array.replicate l.toArray.size false) :=
    ⟨by simp, fun j oj _ hl => (by rw [getD_replicate_false] at hl; cases hl), fun t _ ht => getD_in (by simpa using ht) (getD_replicate_false _ _)⟩
  have hgr : Grow w { w with drawn := w.drawn + 1 } := Grow.drew (Grow.refl _)
  have I0 : Inv2 .any l.toArray C n ef lo a val SX (Array.replicate l.toArray.size false) a { w with drawn := w.drawn + 1 } (fun _ => undef) 0 :=
    ⟨inv0, hCg _ _ hC0 hgr, Nat.zero_le _, fun j _ => by rw [getD_replicate_false]; simp, by rw [hSX0]; exact hS0 _ _ _ (hS _) hgr, rfl, rfl, fun j _ hl => (by rw [getD_replicate_false] at hl; cases hl), fun t _ => rfl⟩
  have hdl : (l.drop n).length = l.toArray.size - n := by simp
  have hu : unl (Array.replicate l.toArray.size false) n = n := by
    unfold unl
    rw [List.countP_eq_length.2 (fun j _ => by rw [getD_replicate_false]; rfl), List.length_range]
  refine wp_region_any hm ?_
  have := wpAny_eff (Q := Q) (g := l.toArray.size - n) H hsel hs hc hn hCg hS0 hW (fun listed a' w' ν m I hall => by
    have e1 := headDone_eq I.head hall
    subst e1
    have e2 := finish2_eq H I F hall
    subst e2
    have hst : SX n ν w' := by
      have hq : ∀ k, k < n → k ∉ ef → SX (k + 1) = SX k := fun k hk hne => by
        obtain ⟨ok, hok⟩ := H.has k hk
        obtain ⟨ck, _, hkk⟩ := G k hk ok hok
        rcases hkk with ⟨_, _, h⟩ | ⟨h, _⟩ | ⟨h, _⟩ | ⟨h, _⟩
        · exact h
        all_goals exact absurd h hne
      have hml := I.mle
      have := sx_const (m := m) hq (n - m) (by omega) (fun j hj hmj => by
        have h1 := (I.pos j hj).1 (hall j (H.efLt j hj))
        omega)
      rw [show m + (n - m) = n by omega] at this
      rw [this]
      exact I.st
    have h2 := hQ ν w' I.cls hst
    have h3 := wpAny_of_seq (md := .any) (Q' := Q) (l.drop n) n (headDone l.toArray.size n) _ w' (fun j => by simp [List.getElem?_drop]) (by rw [hdl]; exact hseq) h2
    rwa [hdl] at h3) n _ _ _ _ _ I0 hu
  rw [show n + (l.toArray.size - n) = l.toArray.size by omega] at this
  exact this

section
variable {ef lo : List Nat} {Qt : Act → St → Prop} {i : Nat} {o : Oper} {rest : List Oper} {a : Act} {S : St}
theorem eff_quiet {v : Value} (hS : Stable S) (hne : i ∉ ef) (hnl : i ∉ lo) (hw : Region.wanted o (yielded ops a.tmps) = true) (h : ∀ w, C w → Oper.quietUpon P (Grow w) w v ((execOp a.eval o).run P w))
    (hk : wpEff P ops C ef lo Qt (i + 1) rest (a.put o.dst v) S) : wpEff P ops C ef lo Qt i (o :: rest) a S := by
  refine ⟨v, S, hS, .inl ⟨hne, .inl ⟨hw, h⟩, rfl⟩, ?_⟩
  rw [if_neg hnl]
  exact hk
theorem eff_skip (hS : Stable S) (hnl : i ∉ lo) (hw : Region.wanted o (yielded ops a.tmps) = false)
    (hk : wpEff P ops C ef lo Qt (i + 1) rest (a.put o.dst undef) S) : wpEff P ops C ef lo Qt i (o :: rest) a S := by
  by_cases hne : i ∈ ef
  · refine ⟨undef, S, hS, .inr (.inl ⟨hne, hnl, hw, rfl, rfl⟩), ?_⟩
    rw [if_neg hnl]
    exact hk
  · refine ⟨undef, S, hS, .inl ⟨hne, .inr ⟨hw, rfl⟩, rfl⟩, ?_⟩
    rw [if_neg hnl]
    exact hk
theorem eff_known {v : Value} (S' : St) (hS : Stable S') (hef : i ∈ ef) (hnl : i ∉ lo) (hw : Region.wanted o (yielded ops a.tmps) = true)
    (h : ∀ ν w, C w → S ν w → effUpon P (fun u w' => u = v ∧ C w' ∧ S' ν w') ((execOp a.eval o).run P w))
    (hk : wpEff P ops C ef lo Qt (i + 1) rest (a.put o.dst v) S') : wpEff P ops C ef lo Qt i (o :: rest) a S := by
  refine ⟨v, S', hS, .inr (.inr (.inl ⟨hef, hnl, hw, h⟩)), ?_⟩
  rw [if_neg hnl]
  exact hk
theorem eff_loose (S' : St) (hS : Stable S') (hef : i ∈ ef) (hl : i ∈ lo) (hw : Region.wanted o (yielded ops a.tmps) = true)
    (h : ∀ ν w, C w → S ν w → effUpon P (fun u w' => C w' ∧ S' (upd ν i u) w') ((execOp a.eval o).run P w))
    (hk : wpEff P ops C ef lo Qt (i + 1) rest a S') : wpEff P ops C ef lo Qt i (o :: rest) a S := by
  refine ⟨undef, S', hS, .inr (.inr (.inr ⟨hef, hl, hw, h⟩)), ?_⟩
  rw [if_pos hl]
  exact hk
theorem eff_nil (h : Qt a S) : wpEff P ops C ef lo Qt i [] a S := h
end
end
end Go.Flow
