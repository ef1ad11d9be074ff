/- A region that draws its order, one of whose head operations makes memory: its value hangs on when it comes up, all other head operations' values don't; one walk serves every order. -/
import Derived.Test.YtiicfpjblfohkaaFlow
namespace Go.Flow
open Go Go.RowKit

theorem count_set {p q : Nat → Bool} {i : Nat} (hp : p i = true) (hq : q i = false) (hs : ∀ j, j ≠ i → q j = p j) : ∀ (l : List Nat), l.Nodup → i ∈ l → l.countP p = l.countP q + 1
  | [], _, h => by cases h
  | x :: l, hn, h => by
    simp only [List.nodup_cons] at hn
    by_cases hx : x = i
    · subst hx
      have : l.countP p = l.countP q := List.countP_congr (fun y hy => by rw [hs y (fun e => hn.1 (e ▸ hy))])
      simp [hp, hq, this]
    · have hm : i ∈ l := by
        rcases List.mem_cons.1 h with e | e
        · exact absurd e.symm hx
        · exact e
      have := count_set hp hq hs l hn.2 hm
      simp only [List.countP_cons, hs x hx, this]
      omega

section
variable {P : Program} {ops : Array Oper} {md : Region.Mode} {Q : Exit → Act → World → Prop} {W : World} {V : Value → World → Prop}

/-- The head's form, asked of the text alone. 'lo': the operation that makes memory. -/
def headB (md : Region.Mode) (ops : Array Oper) (n : Nat) (lo : Option Nat) : Bool :=
  (List.range n).all fun i => match ops[i]? with
    | none => false
    | some o =>
      (o.after.all fun e => !Region.binds md e || decide (e.on < i)) &&
      ((o.looksAt ops).all fun t => (List.range n).all fun j => match ops[j]? with
        | none => false
        | some oj => oj.dst != some t || (decide (lo ≠ some j) && Region.waitsFor md ops i j)) &&
      ((List.range n).all fun j => decide (j = i) || (match ops[j]? with
        | none => false
        | some oj => o.dst == none || oj.dst != o.dst))

structure HeadOk (md : Region.Mode) (ops : Array Oper) (n : Nat) (lo : Option Nat) : Prop where
  has : ∀ i, i < n → ∃ o, ops[i]? = some o
  back : ∀ i o, i < n → ops[i]? = some o → ∀ e ∈ o.after, Region.binds md e = true → e.on < i
  looks : ∀ i o, i < n → ops[i]? = some o → ∀ t ∈ o.looksAt ops, ∀ j oj, j < n → ops[j]? = some oj → oj.dst = some t → lo ≠ some j ∧ Region.waitsFor md ops i j = true
  uniq : ∀ i o, i < n → ops[i]? = some o → ∀ j oj, j < n → j ≠ i → ops[j]? = some oj → ∀ t, o.dst = some t → oj.dst ≠ some t

theorem headOk_of {n : Nat} {lo : Option Nat} (h : headB md ops n lo = true) : HeadOk md ops n lo := by
  have h0 : ∀ i, i < n → _ := fun i hi => List.all_eq_true.1 h i (List.mem_range.2 hi)
  refine ⟨?_, ?_, ?_, ?_⟩
  · intro i hi
    have := h0 i hi
    cases ho : ops[i]? with
    | none => simp [ho] at this
    | some o => exact ⟨o, rfl⟩
  · intro i o hi ho e he hb
    have := h0 i hi
    simp only [ho, Bool.and_eq_true] at this
    have h1 := Array.all_eq_true'.1 this.1.1 e he
    simpa [hb] using h1
  · intro i o hi ho t ht j oj hj hoj hd
    have := h0 i hi
    simp only [ho, Bool.and_eq_true] at this
    have h1 := List.all_eq_true.1 (List.all_eq_true.1 this.1.2 t ht) j (List.mem_range.2 hj)
    simp only [hoj, hd, bne_self_eq_false, Bool.false_or, Bool.and_eq_true, decide_eq_true_eq] at h1
    exact h1
  · intro i o hi ho j oj hj hji hoj t ht
    have := h0 i hi
    simp only [ho, Bool.and_eq_true] at this
    have h1 := List.all_eq_true.1 this.2 j (List.mem_range.2 hj)
    simp only [hji, decide_false, Bool.false_or, hoj, ht] at h1
    intro e
    rw [e] at h1
    simp at h1

/-- What operation i is shown to do in the act c (the text's order up to it). -/
def YieldsC (P : Program) (ops : Array Oper) (W : World) (o : Oper) (c : Act) (v : Value) : Prop :=
  (Region.wanted o (yielded ops c.tmps) = true ∧ ∀ w, Grow W w → Oper.quietUpon P (Grow w) w v ((execOp c.eval o).run P w)) ∨
  (Region.wanted o (yielded ops c.tmps) = false ∧ v = undef)
def MakesC (P : Program) (ops : Array Oper) (W : World) (V : Value → World → Prop) (o : Oper) (c : Act) : Prop :=
  Region.wanted o (yielded ops c.tmps) = true ∧ ∀ w, Grow W w → ∃ v w', (execOp c.eval o).run P w = .ok (.value v) w' ∧ Grow w w' ∧ V v w'

/-- The walk in the text's order over the head: its acts and values. -/
inductive Walked (P : Program) (ops : Array Oper) (W : World) (V : Value → World → Prop) (lo : Option Nat) (a0 : Act) : Nat → (Nat → Value) → Act → Prop
  | start : Walked P ops W V lo a0 0 (fun _ => undef) a0
  | op {i : Nat} {val : Nat → Value} {c : Act} {o : Oper} {v : Value} (h : Walked P ops W V lo a0 i val c) (ho : ops[i]? = some o) (hl : lo ≠ some i) (hy : YieldsC P ops W o c v) :
      Walked P ops W V lo a0 (i + 1) (fun j => if j = i then v else val j) (c.put o.dst v)
  | make {i : Nat} {val : Nat → Value} {c : Act} {o : Oper} (h : Walked P ops W V lo a0 i val c) (ho : ops[i]? = some o) (hl : lo = some i) (hy : MakesC P ops W V o c) :
      Walked P ops W V lo a0 (i + 1) val c

/-- What an act holds behind the walk over the first m. -/
structure Facts (ops : Array Oper) (lo : Option Nat) (a0 : Act) (m : Nat) (val : Nat → Value) (c : Act) : Prop where
  defers : c.defers = a0.defers
  size : c.tmps.size = a0.tmps.size
  at_ : ∀ j, j < m → lo ≠ some j → ∀ oj, ops[j]? = some oj → ∀ t, oj.dst = some t → t < a0.tmps.size → c.tmps[t]? = some (val j)
  off : ∀ t, (∀ j, j < m → lo ≠ some j → ∀ oj, ops[j]? = some oj → oj.dst ≠ some t) → c.tmps[t]? = a0.tmps[t]?

theorem put_defers_eq (c : Act) (d : Option Tmp) (v : Value) : (c.put d v).defers = c.defers := by cases d <;> rfl
theorem put_size (c : Act) (d : Option Tmp) (v : Value) : (c.put d v).tmps.size = c.tmps.size := by cases d <;> simp [Act.put]
theorem put_get_ne (c : Act) {d : Option Tmp} (v : Value) {t : Tmp} (h : d ≠ some t) : (c.put d v).tmps[t]? = c.tmps[t]? := by
  cases d with
  | none => rfl
  | some d =>
    have hne : d ≠ t := fun e => h (by rw [e])
    simp [Act.put, Array.getElem?_setIfInBounds_ne hne]
theorem put_get_eq (c : Act) {t : Tmp} (v : Value) (h : t < c.tmps.size) : (c.put (some t) v).tmps[t]? = some v := by
  simp [Act.put, h]

theorem facts_of {n : Nat} {lo : Option Nat} {a0 : Act} (H : HeadOk md ops n lo) {i : Nat} {val : Nat → Value} {c : Act} (hw : Walked P ops W V lo a0 i val c) : i ≤ n →
    Facts ops lo a0 i val c ∧ ∀ k, k < i → ∀ ok, ops[k]? = some ok → ∃ ck, Facts ops lo a0 k val ck ∧ (lo ≠ some k → YieldsC P ops W ok ck (val k)) ∧ (lo = some k → MakesC P ops W V ok ck) := by
  induction hw with
  | start => exact fun _ => ⟨⟨rfl, rfl, fun j hj => absurd hj (Nat.not_lt_zero _), fun t _ => rfl⟩, fun k hk => absurd hk (Nat.not_lt_zero _)⟩
  | @op i val c o v h ho hl hy ih =>
    intro hi
    obtain ⟨F, G⟩ := ih (by omega)
    refine ⟨⟨(put_defers_eq ..).trans F.defers, (put_size ..).trans F.size, ?_, ?_⟩, ?_⟩
    · intro j hj hlj oj hoj t ht hts
      by_cases hji : j = i
      · subst hji
        rw [ho] at hoj
        cases hoj
        rw [ht]
        simp only [if_true]
        exact put_get_eq c v (by rw [F.size]; exact hts)
      · simp only [hji, if_false]
        rw [put_get_ne c v (H.uniq j oj (by omega) hoj i o (by omega) (fun e => hji e.symm) ho t ht)]
        exact F.at_ j (by omega) hlj oj hoj t ht hts
    · intro t ht
      rw [put_get_ne c v (ht i (by omega) hl o ho)]
      exact F.off t (fun j hj hlj oj hoj => ht j (by omega) hlj oj hoj)
    · intro k hk ok hok
      have same : ∀ ck, k ≤ i → Facts ops lo a0 k val ck → Facts ops lo a0 k (fun j => if j = i then v else val j) ck := fun ck hki f =>
        ⟨f.defers, f.size, fun j hj hlj oj hoj t ht hts => by
          have : j ≠ i := by omega
          simp only [this, if_false]
          exact f.at_ j hj hlj oj hoj t ht hts, f.off⟩
      by_cases hki : k = i
      · subst hki
        rw [ho] at hok
        cases hok
        exact ⟨c, same c (Nat.le_refl _) F, fun _ => by simpa using hy, fun e => absurd e hl⟩
      · obtain ⟨ck, f, g1, g2⟩ := G k (by omega) ok hok
        exact ⟨ck, same ck (by omega) f, fun e => by simp only [hki, if_false]; exact g1 e, g2⟩
  | @make i val c o h ho hl hy ih =>
    intro hi
    obtain ⟨F, G⟩ := ih (by omega)
    refine ⟨⟨F.defers, F.size, ?_, ?_⟩, ?_⟩
    · intro j hj hlj oj hoj t ht hts
      by_cases hji : j = i
      · subst hji; exact absurd hl hlj
      · exact F.at_ j (by omega) hlj oj hoj t ht hts
    · intro t ht
      exact F.off t (fun j hj hlj oj hoj => ht j (by omega) hlj oj hoj)
    · intro k hk ok hok
      by_cases hki : k = i
      · subst hki
        rw [ho] at hok
        cases hok
        exact ⟨c, F, fun e => absurd hl e, fun _ => hy⟩
      · exact G k (by omega) ok hok

/-- What an act and a world hold when these have come up. -/
structure Inv (md : Region.Mode) (ops : Array Oper) (W : World) (V : Value → World → Prop) (n : Nat) (lo : Option Nat) (a0 : Act) (val : Nat → Value) (listed : Array Bool) (a : Act) (w : World) (ν : Value) : Prop where
  head : HeadInv md ops n listed
  grow : Grow W w
  made : ∀ k, lo = some k → listed.getD k false = true → V ν w
  defers : a.defers = a0.defers
  size : a.tmps.size = a0.tmps.size
  at_ : ∀ j, j < n → listed.getD j false = true → ∀ oj, ops[j]? = some oj → ∀ t, oj.dst = some t → t < a0.tmps.size → a.tmps[t]? = some (if lo = some j then ν else val j)
  off : ∀ t, (∀ j, j < n → listed.getD j false = true → ∀ oj, ops[j]? = some oj → oj.dst ≠ some t) → a.tmps[t]? = a0.tmps[t]?

theorem Inv.agree {n : Nat} {lo : Option Nat} {a0 : Act} {val : Nat → Value} {listed : Array Bool} {a : Act} {w : World} {ν : Value} (I : Inv md ops W V n lo a0 val listed a w ν) (H : HeadOk md ops n lo)
    {i : Nat} {o : Oper} (hi : i < n) (ho : ops[i]? = some o) (hr : i ∈ Region.ready md ops listed) {c : Act} (F : Facts ops lo a0 i val c) : ∀ t ∈ o.looksAt ops, a.tmps[t]? = c.tmps[t]? := by
  intro t ht
  obtain ⟨_, o', ho', hall⟩ := mem_ready.1 hr
  have : o' = o := Option.some.inj (ho'.symm.trans ho)
  subst this
  by_cases hex : ∃ j oj, j < n ∧ ops[j]? = some oj ∧ oj.dst = some t
  · obtain ⟨j, oj, hj, hoj, hd⟩ := hex
    obtain ⟨h1, h2⟩ := H.looks i o' hi ho t ht j oj hj hoj hd
    obtain ⟨o2, ho2, e, he, hb, hon⟩ := Region.waitsFor_spec h2
    have : o2 = o' := Option.some.inj (ho2.symm.trans ho)
    subst this
    have hlj : listed.getD j false = true := hon ▸ hall e he hb
    have hji : j < i := hon ▸ H.back i o2 hi ho e he hb
    by_cases hts : t < a0.tmps.size
    · rw [I.at_ j hj hlj oj hoj t hd hts, F.at_ j hji h1 oj hoj t hd hts]
      simp [h1]
    · rw [Array.getElem?_eq_none (by rw [I.size]; exact Nat.le_of_not_lt hts), Array.getElem?_eq_none (by rw [F.size]; exact Nat.le_of_not_lt hts)]
  · rw [I.off t (fun j hj _ oj hoj hd => hex ⟨j, oj, hj, hoj, hd⟩), F.off t (fun j hj _ oj hoj hd => hex ⟨j, oj, by omega, hoj, hd⟩)]

theorem eval_same {a c : Act} {o : Oper} (h : ∀ t ∈ o.looksAt ops, a.tmps[t]? = c.tmps[t]?) (hs : ∀ cs b, o.op ≠ .select cs b) : execOp a.eval o = execOp c.eval o :=
  execOp_congr o hs (fun x hx => by
    cases x with
    | tmp t =>
      have ht : t ∈ o.looksAt ops := by
        unfold Oper.looksAt
        refine List.mem_append.2 (.inl (List.mem_filterMap.2 ⟨.tmp t, by simpa using hx, rfl⟩))
      simp [Act.eval, h t ht]
    | _ => rfl)
theorem wanted_same {a c : Act} {o : Oper} (h : ∀ t ∈ o.looksAt ops, a.tmps[t]? = c.tmps[t]?) : Region.wanted o (yielded ops a.tmps) = Region.wanted o (yielded ops c.tmps) := by
  unfold Region.wanted
  cases hg : o.guard with
  | none => rfl
  | some q =>
    obtain ⟨g, want⟩ := q
    simp only
    unfold yielded
    cases hd : (ops[g]?).bind (·.dst) with
    | none => rfl
    | some t =>
      have ht : t ∈ o.looksAt ops := by
        unfold Oper.looksAt
        refine List.mem_append.2 (.inr ?_)
        simp [hg, hd]
      simp [h t ht]

theorem Inv.put {n : Nat} {lo : Option Nat} {a0 : Act} {val : Nat → Value} {listed : Array Bool} {a : Act} {w w' : World} {ν ν' : Value} (I : Inv md ops W V n lo a0 val listed a w ν) (H : HeadOk md ops n lo)
    {i : Nat} {o : Oper} (hi : i < n) (ho : ops[i]? = some o) (hr : i ∈ Region.ready md ops listed) (hg : Grow w w') (v : Value)
    (hv : v = if lo = some i then ν' else val i) (hsame : lo ≠ some i → ν' = ν) (hm : ∀ k, lo = some k → (listed.setIfInBounds i true).getD k false = true → V ν' w') (hfresh : lo = some i → ∀ j, j < n → listed.getD j false = true → lo ≠ some j) :
    Inv md ops W V n lo a0 val (listed.setIfInBounds i true) (a.put o.dst v) w' ν' := by
  refine ⟨I.head.set hr hi, I.grow.trans hg, hm, (put_defers_eq ..).trans I.defers, (put_size ..).trans I.size, ?_, ?_⟩
  · intro j hj hl oj hoj t ht hts
    by_cases hji : j = i
    · subst hji
      rw [ho] at hoj
      cases hoj
      rw [ht, put_get_eq a v (by rw [I.size]; exact hts), hv]
    · rw [getD_set_ne false (fun e => hji e.symm)] at hl
      rw [put_get_ne a v (H.uniq j oj hj hoj i o hi (fun e => hji e.symm) ho t ht), I.at_ j hj hl oj hoj t ht hts]
      by_cases hli : lo = some i
      · have := hfresh hli j hj hl
        simp [this]
      · rw [hsame hli]
  · intro t ht
    have h1 : o.dst ≠ some t := by
      by_cases hin : i < listed.size
      · exact ht i hi (by simp [hin]) o ho
      · have := (mem_ready.1 hr).1
        simp [hin] at this
    rw [put_get_ne a v h1]
    refine I.off t (fun j hj hl oj hoj => ht j hj (getD_set_true hl) oj hoj)

/-- How many of the head's operations have not come up. -/
def unl (listed : Array Bool) (n : Nat) : Nat := (List.range n).countP fun j => !listed.getD j false

theorem unl_set {listed : Array Bool} {n i : Nat} (hi : i < n) (hs : i < listed.size) (h : listed.getD i true = false) : unl listed n = unl (listed.setIfInBounds i true) n + 1 := by
  unfold unl
  refine count_set (i := i) ?_ ?_ ?_ _ List.nodup_range (List.mem_range.2 hi)
  · rw [getD_both h]; rfl
  · simp [hs]
  · intro j hj
    rw [getD_set_ne false (fun e => hj e.symm)]

theorem unl_zero {listed : Array Bool} {n : Nat} (h : unl listed n = 0) : ∀ j, j < n → listed.getD j false = true := by
  intro j hj
  have := List.countP_eq_zero.1 h j (List.mem_range.2 hj)
  simpa using this
theorem unl_pos {listed : Array Bool} {n : Nat} (h : 0 < unl listed n) : ∃ j, j < n ∧ listed.getD j false = false := by
  obtain ⟨j, hj, hp⟩ := List.countP_pos_iff.1 h
  exact ⟨j, List.mem_range.1 hj, by simpa using hp⟩

/-- The least that has not come up may come up. -/
theorem least_ready {n : Nat} {lo : Option Nat} (H : HeadOk md ops n lo) {listed : Array Bool} (hs : listed.size = ops.size) (hn : n < ops.size) : ∀ (k j : Nat), j ≤ k → j < n → listed.getD j false = false → Region.ready md ops listed ≠ []
  | 0, j, hjk, hj, hl => by
    have h0 : j = 0 := by omega
    subst h0
    obtain ⟨o, ho⟩ := H.has 0 hj
    intro e
    have : 0 ∈ Region.ready md ops listed := mem_ready.2 ⟨getD_in (by omega) hl, o, ho, fun e he hb => absurd (H.back 0 o hj ho e he hb) (Nat.not_lt_zero _)⟩
    rw [e] at this
    cases this
  | k + 1, j, hjk, hj, hl => by
    by_cases hb : ∃ i, i < j ∧ listed.getD i false = false
    · obtain ⟨i, hij, hli⟩ := hb
      exact least_ready H hs hn k i (by omega) (by omega) hli
    · obtain ⟨o, ho⟩ := H.has j hj
      intro e
      have : j ∈ Region.ready md ops listed := mem_ready.2 ⟨getD_in (by omega) hl, o, ho, fun e he hb' => by
        have hlt := H.back j o hj ho e he hb'
        cases hc : listed.getD e.on false with
        | true => rfl
        | false => exact absurd ⟨e.on, hlt, hc⟩ hb⟩
      rw [e] at this
      cases this

theorem wpAny_loose {n g : Nat} {lo : Option Nat} {a0 : Act} {val : Nat → Value} {c : Act} (H : HeadOk md ops n lo) (hsel : Region.noSelect ops = true) (hsk : Region.sinkB md ops n = true) (hch : Region.chainB md ops n = true) (hn : n < ops.size)
    (hW : Walked P ops W V lo a0 n val c) (hV : ∀ v w w', V v w → Grow w w' → V v w')
    (hT : ∀ listed a w ν, Inv md ops W V n lo a0 val listed a w ν → (∀ j, j < n → listed.getD j false = true) → wpAny P md ops Q g listed a w) :
    ∀ (f : Nat) (listed : Array Bool) (a : Act) (w : World) (ν : Value), Inv md ops W V n lo a0 val listed a w ν → unl listed n = f → wpAny P md ops Q (f + g) listed a w := by
  obtain ⟨_, G⟩ := facts_of H hW (Nat.le_refl _)
  intro f
  induction f with
  | zero =>
    intro listed a w ν I hu
    rw [Nat.zero_add]
    exact hT listed a w ν I (unl_zero hu)
  | succ f ih =>
    intro listed a w ν I hu
    rw [show f + 1 + g = (f + g) + 1 by omega]
    obtain ⟨j0, hj0, hl0⟩ := unl_pos (by omega : 0 < unl listed n)
    refine ⟨fun h0 => absurd h0 (least_ready H I.head.size hn j0 j0 (Nat.le_refl _) hj0 hl0), fun i hr => ?_⟩
    have hin : i < n := by
      rcases Nat.lt_or_ge i n with h | h
      · exact h
      · exact absurd hr (tail_waits hsk hch hn I.head _ j0 rfl hj0 (getD_in (by rw [I.head.size]; omega) hl0) i h)
    obtain ⟨hun, o, ho, _⟩ := mem_ready.1 hr
    obtain ⟨ci, F, hY, hM⟩ := G i hin o ho
    have hag := I.agree H hin ho hr F
    have he := eval_same hag (fun cs b => Region.noSelect_spec hsel i o cs b ho)
    have hwt := wanted_same hag
    have hu' : unl (listed.setIfInBounds i true) n = f := by
      have := unl_set hin (by rw [I.head.size]; omega) hun
      omega
    unfold wpOp
    simp only [ho]
    by_cases hlo : lo = some i
    · obtain ⟨hw1, hrun⟩ := hM hlo
      obtain ⟨v, w', hr1, hg1, hv1⟩ := hrun w I.grow
      rw [hwt, if_pos hw1]
      refine .inl ?_
      unfold Oper.wp
      rw [he, hr1]
      exact ih _ _ _ v (I.put H hin ho hr hg1 v (by simp [hlo]) (fun h => absurd hlo h) (fun k hk _ => hv1) (fun _ j hj hl hlj => by
        rw [hlo] at hlj
        cases hlj
        rw [getD_both hun] at hl
        cases hl)) hu'
    · have next : ∀ w', Grow w w' → wpAny P md ops Q (f + g) (listed.setIfInBounds i true) (a.put o.dst (val i)) w' := fun w' hg =>
        ih _ _ _ ν (I.put H hin ho hr hg (val i) (by simp [hlo]) (fun _ => rfl) (fun k hk hl => by
          have hki : k ≠ i := fun e => hlo (e ▸ hk)
          rw [getD_set_ne false (fun e => hki e.symm)] at hl
          exact hV _ _ _ (I.made k hk hl) hg) (fun h => absurd h hlo)) hu'
      rcases hY hlo with ⟨hw1, hq⟩ | ⟨hw1, hv⟩
      · rw [hwt, if_pos hw1]
        refine .inl ?_
        have h3 := hq w I.grow
        unfold Oper.wp
        rw [he]
        generalize (execOp ci.eval o).run P w = r at h3
        cases r with
        | ok x w' =>
          cases x <;> simp only [Oper.quietUpon] at h3 <;> simp only [Oper.upon]
          case value u =>
            obtain ⟨e1, e2⟩ := h3
            rw [e1, e2]
            exact next w (Grow.refl _)
          case skip =>
            obtain ⟨e1, e2⟩ := h3
            rw [e1, ← e2]
            exact next w (Grow.refl _)
          case enter fn args =>
            obtain ⟨e1, hc⟩ := h3
            rw [e1]
            exact hc.mono fun e w'' ⟨he', hw''⟩ => by subst he'; exact next w'' hw''
        | halt x w' => simp only [Oper.quietUpon] at h3
      · rw [hwt, if_neg (by rw [hw1]; exact Bool.false_ne_true)]
        rw [← hv]
        exact next w (Grow.refl _)

/-- The walk to be shown, in the text's order. -/
def wpLoose (P : Program) (ops : Array Oper) (W : World) (V : Value → World → Prop) (lo : Option Nat) (Qt : Act → Prop) : Nat → List Oper → Act → Prop
  | _, [], a => Qt a
  | i, o :: rest, a => if lo = some i then MakesC P ops W V o a ∧ wpLoose P ops W V lo Qt (i + 1) rest a else ∃ v, YieldsC P ops W o a v ∧ wpLoose P ops W V lo Qt (i + 1) rest (a.put o.dst v)

theorem walked_of {lo : Option Nat} {a0 : Act} {Qt : Act → Prop} : ∀ (l : List Oper) (i : Nat) (val : Nat → Value) (c : Act), (∀ j, j < l.length → ops[i + j]? = l[j]?) → Walked P ops W V lo a0 i val c → wpLoose P ops W V lo Qt i l c → ∃ val' c', Walked P ops W V lo a0 (i + l.length) val' c' ∧ Qt c'
  | [], i, val, c, _, hw, h => ⟨val, c, hw, h⟩
  | o :: l, i, val, c, hl, hw, h => by
    have ho : ops[i]? = some o := by simpa using hl 0 (by simp)
    have hl' : ∀ j, j < l.length → ops[i + 1 + j]? = l[j]? := fun j hj => by
      have := hl (j + 1) (by simp; omega)
      simpa [Nat.add_assoc, Nat.add_comm 1 j] using this
    rw [show i + (o :: l).length = (i + 1) + l.length by simp; omega]
    unfold wpLoose at h
    by_cases hlo : lo = some i
    · rw [if_pos hlo] at h
      exact walked_of l (i + 1) val c hl' (.make hw ho hlo h.1) h.2
    · rw [if_neg hlo] at h
      obtain ⟨v, hy, h2⟩ := h
      exact walked_of l (i + 1) _ _ hl' (.op hw ho hlo hy) h2

def finish (ops : Array Oper) (lo : Option Nat) (a : Act) (ν : Value) : Act :=
  match lo with
  | some k => a.put ((ops[k]?).bind (·.dst)) ν
  | none => a

theorem act_ext {a b : Act} (h1 : a.defers = b.defers) (h2 : ∀ t : Nat, a.tmps[t]? = b.tmps[t]?) : a = b := by
  obtain ⟨t1, d1⟩ := a
  obtain ⟨t2, d2⟩ := b
  simp only at h1
  subst h1
  have : t1 = t2 := Array.ext_getElem? h2
  rw [this]

theorem finish_eq {n : Nat} {lo : Option Nat} {a0 : Act} {val : Nat → Value} {listed : Array Bool} {a c : Act} {w : World} {ν : Value} (H : HeadOk md ops n lo) (hlo : ∀ k, lo = some k → k < n) (I : Inv md ops W V n lo a0 val listed a w ν)
    (F : Facts ops lo a0 n val c) (hall : ∀ j, j < n → listed.getD j false = true) : a = finish ops lo c ν := by
  refine act_ext ?_ fun t => ?_
  · unfold finish
    split
    · rw [put_defers_eq, I.defers, F.defers]
    · rw [I.defers, F.defers]
  by_cases hex : ∃ j oj, j < n ∧ ops[j]? = some oj ∧ oj.dst = some t
  · obtain ⟨j, oj, hj, hoj, hd⟩ := hex
    by_cases hts : t < a0.tmps.size
    · rw [I.at_ j hj (hall j hj) oj hoj t hd hts]
      unfold finish
      by_cases hl : lo = some j
      · subst hl
        simp only [hoj, Option.bind_some, hd, if_true]
        rw [put_get_eq c ν (by rw [F.size]; exact hts)]
      · simp only [hl, if_false]
        cases hlo' : lo with
        | none => simp only; rw [F.at_ j hj hl oj hoj t hd hts]
        | some k =>
          have hk := hlo k hlo'
          obtain ⟨ok, hok⟩ := H.has k hk
          have hkj : k ≠ j := fun e => hl (e ▸ hlo')
          simp only [hok, Option.bind_some]
          rw [put_get_ne c ν (H.uniq j oj hj hoj k ok hk hkj hok t hd), F.at_ j hj hl oj hoj t hd hts]
    · have h1 : a.tmps.size ≤ t := by rw [I.size]; exact Nat.le_of_not_lt hts
      have h2 : (finish ops lo c ν).tmps.size ≤ t := by
        unfold finish
        split
        · rw [put_size, F.size]; exact Nat.le_of_not_lt hts
        · rw [F.size]; exact Nat.le_of_not_lt hts
      rw [Array.getElem?_eq_none h1, Array.getElem?_eq_none h2]
  · rw [I.off t (fun j hj _ oj hoj hd => hex ⟨j, oj, hj, hoj, hd⟩)]
    have hc : c.tmps[t]? = a0.tmps[t]? := F.off t (fun j hj _ oj hoj hd => hex ⟨j, oj, hj, hoj, hd⟩)
    unfold finish
    split
    · rename_i k
      obtain ⟨ok, hok⟩ := H.has k (hlo k rfl)
      rw [put_get_ne c ν (by rw [hok]; exact fun hd => hex ⟨k, ok, hlo k rfl, hok, hd⟩), hc]
    · exact hc.symm

def headDone (m n : Nat) : Array Bool := ((List.range m).map fun j => decide (j < n)).toArray

theorem headDone_eq {n : Nat} {listed : Array Bool} (h : HeadInv md ops n listed) (hall : ∀ j, j < n → listed.getD j false = true) : listed = headDone ops.size n := by
  apply Array.ext_getElem?
  intro j
  unfold headDone
  by_cases hj : j < ops.size
  · have hjs : j < listed.size := by rw [h.size]; exact hj
    simp only [List.getElem?_toArray, List.getElem?_map, List.getElem?_range hj, Option.map_some, Array.getElem?_eq_getElem hjs]
    by_cases hn : j < n
    · have := hall j hn
      simp [hjs] at this
      simp [hn, this]
    · have := h.tail j (by omega) hj
      simp [hjs] at this
      simp [hn, this]
  · rw [Array.getElem?_eq_none (by rw [h.size]; omega)]
    symm
    rw [Array.getElem?_eq_none]
    simp
    omega

/-- The Bool of the whole region's text. -/
def looseB (md : Region.Mode) (ops : Array Oper) (n : Nat) (lo : Option Nat) : Bool :=
  Region.noSelect ops && decide (n < ops.size) && Region.sinkB md ops n && Region.chainB md ops n && headB md ops n lo && (match lo with | some k => decide (k < n) | none => true) &&
  Region.seqB md ops (ops.size - n) n (headDone ops.size n)

theorem wp_region_loose {id : Nat} {a : Act} {w : World} {l : List Oper} (n : Nat) (lo : Option Nat) (V : Value → World → Prop) (hm : P.follows .mixedOrders = true) (hB : looseB .any l.toArray n lo = true)
    (hV : ∀ v w w', V v w → Grow w w' → V v w')
    (h : wpLoose P l.toArray w V lo (fun a' => ∀ ν w', Grow w w' → (lo ≠ none → V ν w') → wpList P l.toArray Q (l.drop n) (finish l.toArray lo a' ν) w') 0 (l.take n) a) : (Code.region id l.toArray true).wp P Q a w := by
  simp only [looseB, Bool.and_eq_true, decide_eq_true_eq] at hB
  obtain ⟨⟨⟨⟨⟨⟨hsel, hn⟩, hs⟩, hc⟩, hh⟩, hlo⟩, hseq⟩ := hB
  have H := headOk_of hh
  have hlo' : ∀ k, lo = some k → k < n := fun k hk => by subst hk; simpa using hlo
  have hn' : n < l.length := by simpa using hn
  have htl : (l.take n).length = n := by simp; omega
  obtain ⟨val, c, hW, hQ⟩ := walked_of (P := P) (ops := l.toArray) (W := w) (V := V) (lo := lo) (a0 := a) (l.take n) 0 _ a (fun j hj => by
    have hj' : j < n := by rw [htl] at hj; exact hj
    simp [hj']) .start h
  rw [Nat.zero_add, htl] at hW
  obtain ⟨F, _⟩ := facts_of H hW (Nat.le_refl _)
  have inv0 : HeadInv .any l.toArray n (Array.replicate l.toArray.size false) :=
    ⟨by simp, fun j oj _ hl => (by rw [getD_replicate_false] at hl; cases hl), fun t _ ht => getD_in (by simpa using ht) (getD_replicate_false _ _)⟩
  have I0 : Inv .any l.toArray w V n lo a val (Array.replicate l.toArray.size false) a { w with drawn := w.drawn + 1 } undef :=
    ⟨inv0, Grow.drew (Grow.refl _), fun k _ hl => (by rw [getD_replicate_false] at hl; cases hl), rfl, rfl, fun j _ hl => (by rw [getD_replicate_false] at hl; cases hl), fun t _ => rfl⟩
  have hdl : (l.drop n).length = l.toArray.size - n := by simp
  have hu : unl (Array.replicate l.toArray.size false) n = n := by
    unfold unl
    rw [List.countP_eq_length.2 (fun j _ => by rw [getD_replicate_false]; rfl), List.length_range]
  refine wp_region_any hm ?_
  have := wpAny_loose (Q := Q) (g := l.toArray.size - n) H hsel hs hc hn hW hV (fun listed a' w' ν I hall => by
    have e1 := headDone_eq I.head hall
    subst e1
    have e2 := finish_eq H hlo' I F hall
    subst e2
    have h2 := hQ ν w' I.grow (fun hne => by
      cases hk : lo with
      | none => exact absurd hk hne
      | some k => exact I.made k hk (hall k (hlo' k hk)))
    have h3 := wpAny_of_seq (md := .any) (Q' := Q) (l.drop n) n (headDone l.toArray.size n) _ w' (fun j => by simp [List.getElem?_drop]) (by rw [hdl]; exact hseq) h2
    rwa [hdl] at h3) n _ _ _ _ I0 hu
  rw [show n + (l.toArray.size - n) = l.toArray.size by omega] at this
  exact this

theorem loose_op {lo : Option Nat} {Qt : Act → Prop} {i : Nat} {o : Oper} {rest : List Oper} {a : Act} {v : Value} (hlo : lo ≠ some i) (hw : Region.wanted o (yielded ops a.tmps) = true)
    (h : ∀ w, Grow W w → Oper.quietUpon P (Grow w) w v ((execOp a.eval o).run P w)) (hk : wpLoose P ops W V lo Qt (i + 1) rest (a.put o.dst v)) : wpLoose P ops W V lo Qt i (o :: rest) a := by
  unfold wpLoose
  rw [if_neg hlo]
  exact ⟨v, .inl ⟨hw, h⟩, hk⟩
theorem loose_skip {lo : Option Nat} {Qt : Act → Prop} {i : Nat} {o : Oper} {rest : List Oper} {a : Act} (hlo : lo ≠ some i) (hw : Region.wanted o (yielded ops a.tmps) = false)
    (hk : wpLoose P ops W V lo Qt (i + 1) rest (a.put o.dst undef)) : wpLoose P ops W V lo Qt i (o :: rest) a := by
  unfold wpLoose
  rw [if_neg hlo]
  exact ⟨undef, .inr ⟨hw, rfl⟩, hk⟩
theorem loose_make {lo : Option Nat} {Qt : Act → Prop} {i : Nat} {o : Oper} {rest : List Oper} {a : Act} (hlo : lo = some i) (hw : Region.wanted o (yielded ops a.tmps) = true)
    (h : ∀ w, Grow W w → ∃ v w', (execOp a.eval o).run P w = .ok (.value v) w' ∧ Grow w w' ∧ V v w') (hk : wpLoose P ops W V lo Qt (i + 1) rest a) : wpLoose P ops W V lo Qt i (o :: rest) a := by
  unfold wpLoose
  rw [if_pos hlo]
  exact ⟨⟨hw, h⟩, hk⟩
theorem loose_nil {lo : Option Nat} {Qt : Act → Prop} {i : Nat} {a : Act} (h : Qt a) : wpLoose P ops W V lo Qt i [] a := h
end
end Go.Flow
