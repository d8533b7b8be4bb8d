/- A region whose order is open: whatever order is drawn, it comes to what the evaluator finds. -/
import Derived.Test.YtmcepaeialgipaaCxAX15
namespace Go.AX

section
variable {P : Program}

theorem unlisted_zero {ops : Array Oper} {pl : List Nat} (hok : waitsOk pl ops.toList 0 = true) {listed : Array Bool} (hs : listed.size = ops.size) (hr : Region.ready .any ops listed = []) : ∀ (n i : Nat), i < n → i < ops.size → listed.getD i true = true
  | 0, i, h, _ => by omega
  | n + 1, i, h, hi => by
    cases hl : listed.getD i true with
    | true => rfl
    | false =>
      exfalso
      have hm : i ∈ Region.ready .any ops listed := by
        rw [mem_ready]
        refine ⟨hl, ops[i], Array.getElem?_eq_getElem hi, fun e he hb => ?_⟩
        have hlt := (waitsOk_spec pl ops.toList 0 hok i ops[i] (by simp [hi])).2 e he hb
        simp only [Nat.zero_add] at hlt
        have := unlisted_zero hok hs hr n e.on (by omega) (by omega)
        rw [Array.getD_eq_getD_getElem?] at this ⊢
        rw [Array.getElem?_eq_getElem (by omega : e.on < listed.size)] at this ⊢
        exact this
      rw [hr] at hm
      simp at hm

def SOf (listed : Array Bool) : Nat → Bool := fun i => listed.getD i false

theorem SOf_set {listed : Array Bool} {j : Nat} (hj : j < listed.size) : SOf (listed.setIfInBounds j true) = fun k => SOf listed k || Nat.beq k j := by
  funext k
  unfold SOf
  by_cases e : k = j
  · subst e
    rw [Array.getD_eq_getD_getElem?, Array.getElem?_setIfInBounds_self_of_lt hj]
    simp
  · rw [Array.getD_eq_getD_getElem?, Array.getElem?_setIfInBounds_ne (Ne.symm e), ← Array.getD_eq_getD_getElem?]
    have : Nat.beq k j = false := by
      cases hb : Nat.beq k j
      · rfl
      · exact absurd (Nat.eq_of_beq_eq_true hb) e
    simp [this]

theorem getD_tf {listed : Array Bool} {i : Nat} (h : i < listed.size) : listed.getD i true = listed.getD i false := by
  rw [Array.getD_eq_getD_getElem?, Array.getD_eq_getD_getElem?, Array.getElem?_eq_getElem h]
  rfl

theorem closed_set {ops : Array Oper} {listed : Array Bool} {j : Nat} (hs : listed.size = ops.size) (hc : Closed ops (SOf listed)) (hj : j ∈ Region.ready .any ops listed) : Closed ops (SOf (listed.setIfInBounds j true)) := by
  rw [mem_ready] at hj
  obtain ⟨h0, o, ho, hall⟩ := hj
  have hjl : j < listed.size := by rw [hs]; exact (Array.getElem?_eq_some_iff.1 ho).1
  rw [SOf_set hjl]
  intro i p hp hi e he hb
  simp only [Bool.or_eq_true] at hi ⊢
  rcases hi with hi | hi
  · exact .inl (hc i p hp hi e he hb)
  · have := Nat.eq_of_beq_eq_true hi
    subst this
    rw [ho] at hp
    obtain rfl := Option.some.inj hp
    exact .inl (hall e he hb)

theorem pow_bits {n k : Nat} (h : k < n) : (2 ^ n - 1).testBit k = true := by
  rw [Nat.testBit_two_pow_sub_one]
  simpa using h

theorem forced_spec {pl : List Nat} {n t j : Nat} (h : forcedFrom pl n t = true) (hj : j < n) (ht : t ≤ j) : pl.getD j 0 = 2 ^ j - 1 := by
  unfold forcedFrom at h
  have := List.all_eq_true.1 h j (List.mem_range.2 hj)
  simp only [Bool.or_eq_true, decide_eq_true_eq, beq_iff_eq] at this
  rcases this with h1 | h1
  · omega
  · exact h1

/-- The forced end. -/
theorem tail_any {ops : Array Oper} {pl : List Nat} (hok : waitsOk pl ops.toList 0 = true) {t : Nat} (hf : forcedFrom pl ops.toList.length t = true) {Q : Exit → Act → World → Prop} :
    ∀ (d j : Nat) (listed : Array Bool) (fuel : Nat) (a : Act) (w : World), ops.size - j = d → t ≤ j → listed.size = ops.size → (∀ i, i < ops.size → listed.getD i true = decide (i < j)) → d ≤ fuel →
      wpList P ops Q (ops.toList.drop j) a w → wpAny P .any ops Q fuel listed a w
  | 0, j, listed, fuel, a, w, hd, ht, hs, hl, hfu, hw => by
    have hdrop : ops.toList.drop j = [] := by apply List.drop_eq_nil_of_le; simp; omega
    rw [hdrop] at hw
    have hr : Region.ready .any ops listed = [] := by
      apply List.eq_nil_iff_forall_not_mem.2
      intro i hi
      rw [mem_ready] at hi
      obtain ⟨h0, o, ho, _⟩ := hi
      have hil := (Array.getElem?_eq_some_iff.1 ho).1
      rw [hl i hil] at h0
      simp at h0
      omega
    cases fuel with
    | zero => exact ⟨hr, hw⟩
    | succ f => exact ⟨fun _ => hw, fun i hi => by rw [hr] at hi; simp at hi⟩
  | d + 1, j, listed, fuel, a, w, hd, ht, hs, hl, hfu, hw => by
    have hj : j < ops.size := by omega
    obtain ⟨f, rfl⟩ : ∃ f, fuel = f + 1 := ⟨fuel - 1, by omega⟩
    have hS : ∀ i, i < ops.size → (SOf listed i = true ↔ i < j) := by
      intro i hi
      unfold SOf
      rw [← getD_tf (by omega), hl i hi]
      simp
    have hc : Closed ops (SOf listed) := by
      intro i o ho hi e he hb
      have hil := (Array.getElem?_eq_some_iff.1 ho).1
      have hlt := (waitsOk_spec pl ops.toList 0 hok i o (by simpa using ho)).2 e he hb
      simp only [Nat.zero_add] at hlt
      exact (hS e.on (by omega)).2 (by have := (hS i hil).1 hi; omega)
    have hjr : j ∈ Region.ready .any ops listed := by
      rw [mem_ready]
      refine ⟨by rw [hl j hj]; simp, ops[j], Array.getElem?_eq_getElem hj, fun e he hb => ?_⟩
      have hlt := (waitsOk_spec pl ops.toList 0 hok j ops[j] (by simp [hj])).2 e he hb
      simp only [Nat.zero_add] at hlt
      exact (hS e.on (by omega)).2 hlt
    refine ⟨fun h => by rw [h] at hjr; simp at hjr, fun i hi => ?_⟩
    have hij : i = j := by
      rw [mem_ready] at hi
      obtain ⟨h0, o, ho, hall⟩ := hi
      have hil := (Array.getElem?_eq_some_iff.1 ho).1
      rw [hl i hil] at h0
      simp only [decide_eq_false_iff_not] at h0
      rcases Nat.lt_trichotomy i j with h | h | h
      · exact absurd h h0
      · exact h
      · have hb : (pl.getD i 0).testBit j = true := by
          rw [forced_spec hf (by simpa using hil) (by omega)]
          exact pow_bits h
        have := (waits_done hok hc i o ho hall j hb).1
        rw [hS j hj] at this
        omega
    subst hij
    have hcons : ops.toList.drop i = ops[i] :: ops.toList.drop (i + 1) := by
      rw [List.drop_eq_getElem_cons (by simpa using hj)]
      simp
    rw [hcons] at hw
    have hl' : ∀ k, k < ops.size → (listed.setIfInBounds i true).getD k true = decide (k < i + 1) := by
      intro k hk
      by_cases e : k = i
      · subst e
        rw [Array.getD_eq_getD_getElem?, Array.getElem?_setIfInBounds_self_of_lt (by omega)]
        simp
      · rw [getD_set_ne true (Ne.symm e), hl k hk]
        apply decide_eq_decide.2
        omega
    have ih : ∀ a w, wpList P ops Q (ops.toList.drop (i + 1)) a w → wpAny P .any ops Q f (listed.setIfInBounds i true) a w := fun a w h =>
      tail_any hok hf d (i + 1) _ f a w (by omega) (by omega) (by simpa using hs) hl' (by omega) h
    unfold wpList at hw
    unfold wpOp
    rw [Array.getElem?_eq_getElem hj]
    simp only
    split
    · rename_i hwt
      rw [if_pos hwt] at hw
      exact hw.imp (Oper.wp_mono ih) id
    · rename_i hwt
      rw [if_neg hwt] at hw
      exact ih _ _ hw

theorem maskSegs_all {keep : Nat → Bool} : ∀ (k : Nat) (l : List AHeap), (∀ i, i < l.length → keep (k + i) = true) → maskSegs keep k l = l.flatten
  | _, [], _ => rfl
  | k, s :: r, h => by
    simp only [maskSegs, List.flatten_cons]
    rw [show keep k = true from by simpa using h 0 (by simp), maskSegs_all (k + 1) r (fun i hi => by have := h (i + 1) (by simpa using hi); rwa [show k + (i + 1) = k + 1 + i by omega] at this)]
    rfl

/-- What the front's evaluation gives is a front. -/
theorem front_of {ev : Nat → Code → Tm → AHeap → Script → Res} (hev : EvOk P ev) {ops : Array Oper} {pl : List Nat} {T0 : Tm} {H0 : AHeap} {t : Nat} {scr scr' : Script} {ob : List Prop} {st : List FStep} {ts' : Tm}
    (hok : waitsOk pl ops.toList 0 = true) (hap : apartOk ops pl (ops.toList.take t) 0 = true) (ht : t ≤ ops.size) (hn : T0.n ≤ 4000)
    (he : evFront P ev ops pl H0 (ops.toList.take t) 0 T0 [] scr = some (ob, st, ts', scr')) (ho : AllP ob) :
    st.length = t ∧ Front P ops T0 H0 st (fun j k => decide (j < t) && (pl.getD j 0).testBit k) ∧ ∃ T : Nat → Tm, T 0 = T0 ∧ (∀ (j : Nat) (s : FStep), st[j]? = some s → T (j + 1) = putD (T j) s.o.dst s.v) ∧ T st.length = ts' := by
  obtain ⟨r1, r2, T, t0, t1, t2, t3⟩ := evFront_sound hev ops pl H0 _ _ _ _ _ _ _ _ _ he ho rfl
  have hlen : st.length = t := by rw [r1]; simp; omega
  have hat : ∀ (j : Nat) (s : FStep), st[j]? = some s → ops[j]? = some s.o := by
    intro j s hs
    have := r2 j s hs
    rw [List.getElem?_take] at this
    split at this
    · simpa using this
    · simp at this
  have hjt : ∀ {j : Nat} {s : FStep}, st[j]? = some s → j < t := fun h => by rw [← hlen]; exact (List.getElem?_eq_some_iff.1 h).1
  have hTn : ∀ j, j ≤ st.length → (T j).n = T0.n := by
    intro j
    induction j with
    | zero => intro _; rw [t0]
    | succ j ih =>
      intro hj
      rw [t1 j st[j] (List.getElem?_eq_getElem (by omega))]
      unfold putD
      split
      · exact ih (by omega)
      · rw [Tm.put_n]; exact ih (by omega)
  have hpl : ∀ j k, j < t → (pl.getD j 0).testBit k = true → k < j := by
    intro j k hj hk
    have hjs : j < ops.size := by omega
    exact (waits_done hok (S := fun _ => true) (fun _ _ _ _ _ _ _ => rfl) j ops[j] (Array.getElem?_eq_getElem hjs) (fun _ _ _ => rfl) k hk).2
  have hkeep : ∀ j, j < t → (fun k => decide (j < t) && (pl.getD j 0).testBit k) = fun k => (pl.getD j 0).testBit k := by
    intro j hj; funext k; simp [hj]
  refine ⟨hlen, ⟨hat, ?_, ⟨T, t0, t1, ?_⟩, hn, ?_, ?_⟩, T, t0, t1, t2⟩
  · intro j k h
    simp only [Bool.and_eq_true, decide_eq_true_eq] at h
    exact hpl j k h.1 h.2
  · intro j s hs E w a g hr hsz
    have := (t3 j s hs).1
    simp only [Nat.zero_add, List.nil_append] at this
    rw [hkeep j (hjt hs)] at g ⊢
    exact this E w a g hr hsz (by rw [hTn j (Nat.le_of_lt (List.getElem?_eq_some_iff.1 hs).1)]; exact hn)
  · intro i j si sj hij hi hj
    have hji := hjt hj
    have := apartOk_spec ops pl _ 0 hap j sj.o (r2 j sj hj) i si.o (by omega) (hat i si hi)
    simpa [hji] using this
  · intro j s hs
    obtain ⟨_, q1, q2⟩ := t3 j s hs
    simp only [Nat.zero_add, List.nil_append] at q1 q2
    refine ⟨_, q1, q2, fun i hi => ?_⟩
    unfold allowedId at hi
    simp only [Bool.or_eq_true, decide_eq_true_eq] at hi
    by_cases hib : i < H0.length
    · exact .inl hib
    · rcases hi with h | h
      · exact absurd h hib
      · obtain ⟨k, s', h1, h2, h3, h4⟩ := allowed_spec _ 0 _ _ h
        simp only [Nat.zero_add] at h1
        have hkl : k < j + 1 := by
          have := (List.getElem?_eq_some_iff.1 h2).1
          simp only [List.length_take] at this
          omega
        rw [List.getElem?_take_of_lt hkl] at h2
        have hof : offs ((st.map (·.new)).take (j + 1)) k = offs (st.map (·.new)) k := offs_take _ _ _ (by omega)
        rw [hof] at h3 h4
        refine .inr ⟨k, s', ?_, h2, by omega, by omega⟩
        rcases Bool.or_eq_true _ _ ▸ h1 with h | h
        · exact .inl (Nat.eq_of_beq_eq_true h)
        · exact .inr (by simp [hjt hs]; exact h)

theorem unl_set {listed : Array Bool} {n j : Nat} (hj : j < n) (hs : listed.size = n) (h : listed.getD j true = false) :
    ((List.range n).filter fun i => !(listed.setIfInBounds j true).getD i true).length + 1 = ((List.range n).filter fun i => !listed.getD i true).length := by
  have : ∀ (l : List Nat), l.Nodup → j ∈ l → (l.filter fun i => !(listed.setIfInBounds j true).getD i true).length + 1 = (l.filter fun i => !listed.getD i true).length := by
    intro l
    induction l with
    | nil => intro _ h; simp at h
    | cons x l ih =>
      intro hn hm
      simp only [List.nodup_cons] at hn
      by_cases e : x = j
      · subst e
        have hx : (listed.setIfInBounds x true).getD x true = true := by
          rw [Array.getD_eq_getD_getElem?, Array.getElem?_setIfInBounds_self_of_lt (by omega)]; rfl
        have hrest : l.filter (fun i => !(listed.setIfInBounds x true).getD i true) = l.filter fun i => !listed.getD i true := by
          apply List.filter_congr
          intro i hi
          have : x ≠ i := fun e => hn.1 (e ▸ hi)
          rw [getD_set_ne true this]
        rw [List.filter_cons_of_neg (by rw [hx]; simp), List.filter_cons_of_pos (by rw [h]; rfl), hrest]
        simp
      · have hm' : j ∈ l := by
          rcases List.mem_cons.1 hm with h | h
          · exact absurd h.symm e
          · exact h
        have := ih hn.2 hm'
        have hx : (listed.setIfInBounds j true).getD x true = listed.getD x true := getD_set_ne true (Ne.symm e)
        by_cases hb : listed.getD x true = true
        · rw [List.filter_cons_of_neg (by rw [hx, hb]; simp), List.filter_cons_of_neg (by rw [hb]; simp)]
          exact this
        · have hb' : listed.getD x true = false := by simpa using hb
          rw [List.filter_cons_of_pos (by rw [hx, hb']; rfl), List.filter_cons_of_pos (by rw [hb']; rfl)]
          simp only [List.length_cons]
          omega
  exact this _ List.nodup_range (List.mem_range.2 hj)

/-- THE REGION. -/
theorem evDraw_sound {ev : Nat → Code → Tm → AHeap → Script → Res} (hev : EvOk P ev) {id m : Nat} {ops : Array Oper} {ts : Tm} {h : AHeap} {scr scr' : Script} {ob : List Prop} {ts' : Tm} {h' : AHeap}
    (he : evDraw P ev ops ts h scr = some (ob, ts', h', scr')) (ho : AllP ob) : AComes P m (.region id ops true) ts h .normal ts' h' := by
  unfold evDraw at he
  simp only at he
  generalize hpl : waitsAll ops.toList 0 [] = pl at he
  generalize hft : frontLen pl = t0 at he
  split at he
  · rename_i hchk
    simp only [Bool.and_eq_true] at hchk
    obtain ⟨⟨⟨c1, c2⟩, c3⟩, c4⟩ := hchk
    split at he
    · rename_i ob0 st ts1 scr1 hfr
      obtain ⟨ob2, h2, rfl⟩ := addObs_some he
      obtain ⟨o1, o2⟩ := ho.append
      intro hm E w a g hr hd
      refine wp_region_any c1 ?_
      -- the front's length within the region
      obtain ⟨t, ht, htake, hdrop, c3'⟩ : ∃ t, t ≤ ops.size ∧ ops.toList.take t0 = ops.toList.take t ∧ ops.toList.drop t0 = ops.toList.drop t ∧ forcedFrom pl ops.toList.length t = true := by
        by_cases hle : t0 ≤ ops.size
        · exact ⟨t0, hle, rfl, rfl, c3⟩
        · refine ⟨ops.size, Nat.le_refl _, ?_, ?_, ?_⟩
          · rw [List.take_of_length_le (by simp; omega), List.take_of_length_le (by simp)]
          · rw [List.drop_eq_nil_of_le (by simp; omega), List.drop_eq_nil_of_le (by simp)]
          · unfold forcedFrom
            rw [List.all_eq_true]
            intro j hj
            have := List.mem_range.1 hj
            simp only [Array.length_toList] at this
            simp [this]
      rw [htake] at hfr c4
      rw [hdrop] at h2
      obtain ⟨hlen, F, T, q0, q1, q2⟩ := front_of hev c2 c4 ht hr.le hfr o1
      have hEn : E.n = h.length := g.n
      -- the beginning
      have I0 : FInv st ts h E w (SOf (Array.replicate ops.size false)) { E with n := h.length + offs (st.map (·.new)) st.length } a w.drew := by
        have hSf : ∀ k, SOf (Array.replicate ops.size false) k = false := by
          intro k
          unfold SOf
          rw [Array.getD_eq_getD_getElem?, Array.getElem?_replicate]
          split <;> rfl
        have hmask : ∀ {i : Nat} {o : AObj}, (h ++ maskSegs (SOf (Array.replicate ops.size false)) 0 (st.map (·.new)))[i]? = some o → o ≠ .gone → h[i]? = some o := by
          intro i o hi hg
          rcases mask_cases hi hg with ⟨_, h1⟩ | ⟨k, q, s, h1, _⟩
          · exact h1
          · rw [hSf] at h1; exact Bool.noConfusion h1
        refine ⟨rfl, ?_, ?_, ?_, ?_, fun _ _ _ => rfl, ?_, Nat.le_refl _, rfl, ⟨rfl, fun _ => rfl⟩, rfl, hr.n, ?_, ?_, hd⟩
        · intro i o hi
          have : ({ E with n := h.length + offs (st.map (·.new)) st.length } : Env).tr h.length = E := by rw [← hEn]; rfl
          rw [this]
          exact g.drew.holds i o hi
        · intro k s q o hk; rw [hSf] at hk; exact Bool.noConfusion hk
        · intro i j o u hi hj h1 h3 h4
          exact g.apart i j o u (hmask hi (live_ne (own_live h1))) (hmask hj (live_ne h3)) h1 h3 h4
        · exact ⟨Nat.le_add_right _ _, fun _ _ => rfl, fun _ _ => rfl, fun _ _ => rfl, fun _ _ => rfl⟩
        · rintro b ⟨i, o, hi, h1, rfl⟩
          exact .inr ⟨i, o, hmask hi (live_ne (own_live h1)), h1, rfl⟩
        · intro x hx
          refine .inr ⟨fun k s hk => by rw [hSf] at hk; exact Bool.noConfusion hk, ?_⟩
          have : ({ E with n := h.length + offs (st.map (·.new)) st.length } : Env).tr h.length = E := by rw [← hEn]; rfl
          rw [this]
          exact hr.get x
        · intro x hx
          have : ({ E with n := h.length + offs (st.map (·.new)) st.length } : Env).tr h.length = E := by rw [← hEn]; rfl
          rw [this]
          have := hr.get x
          rwa [Array.getD_eq_getD_getElem?, Array.getElem?_eq_none hx] at this
      -- where the front is done
      have fin : ∀ (fuel : Nat) (listed : Array Bool) (E1 : Env) (a1 : Act) (w1 : World), FInv st ts h E w (SOf listed) E1 a1 w1 → listed.size = ops.size → (∀ i, i < t → SOf listed i = true) → (∀ i, t ≤ i → i < ops.size → SOf listed i = false) →
          ((List.range ops.size).filter fun i => !listed.getD i true).length ≤ fuel → wpAny P .any ops (APost m E h w fun e tt k => e = .normal ∧ tt = ts' ∧ k = h') fuel listed a1 w1 := by
        intro fuel listed E1 a1 w1 I hs hall htl hfu
        have hSi : ∀ i, i < ops.size → listed.getD i true = decide (i < t) := by
          intro i hi
          rw [getD_tf (by omega)]
          by_cases hit : i < t
          · rw [show listed.getD i false = true from hall i hit]; simp [hit]
          · rw [show listed.getD i false = false from htl i (by omega) hi]; simp [hit]
        have hcount : ops.size - t ≤ fuel := by
          refine Nat.le_trans ?_ hfu
          have hrange : List.range ops.size = List.range t ++ (List.range (ops.size - t)).map (t + ·) := by
            rw [← List.range_add]; congr 1; omega
          rw [hrange, List.filter_append, List.length_append]
          have : ((List.range (ops.size - t)).map (t + ·)).filter (fun i => !listed.getD i true) = (List.range (ops.size - t)).map (t + ·) := by
            apply List.filter_eq_self.2
            intro i hi
            obtain ⟨k, hk, rfl⟩ := List.mem_map.1 hi
            have := List.mem_range.1 hk
            rw [hSi (t + k) (by omega)]
            simp
          rw [this]
          simp
        have hHS : h ++ maskSegs (SOf listed) 0 (st.map (·.new)) = h ++ (st.map (·.new)).flatten := by
          rw [maskSegs_all 0 _ (fun i hi => by rw [Nat.zero_add]; exact hall i (by simp at hi; omega))]
        have hlenHS : (h ++ (st.map (·.new)).flatten).length = h.length + offs (st.map (·.new)) st.length := by
          rw [← hHS, List.length_append, maskSegs_len, List.length_map]
        have G : Good E1 (h ++ (st.map (·.new)).flatten) w1 := by
          refine ⟨by rw [hlenHS]; exact I.n, fun i o hi => ?_, fun i j o u hi hj k1 k2 k3 => I.apart i j o u (by rw [hHS]; exact hi) (by rw [hHS]; exact hj) k1 k2 k3⟩
          by_cases hg : o = .gone
          · subst hg; trivial
          · rw [← hHS] at hi
            rcases mask_cases hi hg with ⟨k1, k2⟩ | ⟨k, q, l, k1, k2, k3, rfl⟩
            · exact holds_agree (E := E1.tr h.length) ⟨by rw [I.n]; exact Nat.le_add_right _ _, fun _ _ => rfl, fun _ _ => rfl, fun _ _ => rfl, fun _ _ => rfl⟩ k1 (I.base i o k2)
            · obtain ⟨s, k4, rfl⟩ := seg_of k2
              exact I.news k s q o k1 k4 k3
        have R : RepT E1 ts1 a1.tmps := by
          obtain ⟨l1, l2, l3⟩ := lex_get q0 q1 F.n st.length (Nat.le_refl _)
          rw [q2] at l1 l2 l3
          have agB : Env.Agree h.length (E1.tr h.length) E1 := ⟨by rw [I.n]; exact Nat.le_add_right _ _, fun _ _ => rfl, fun _ _ => rfl, fun _ _ => rfl, fun _ _ => rfl⟩
          refine ⟨by rw [l1]; exact I.tn, by rw [l1]; exact F.n, fun x => ?_⟩
          by_cases hx : x < a1.tmps.size
          · rcases l3 x (by rw [I.tn]; exact hx) with ⟨k, s, k1, k2, k3, k4, k5⟩ | ⟨k1, k2⟩
            · rcases I.ts x hx with ⟨k', s', p1, p2, p3, p4, p5⟩ | ⟨p1, _⟩
              · have hk' : k' < st.length := (List.getElem?_eq_some_iff.1 p2).1
                have : k' = k := by
                  rcases Nat.lt_trichotomy k' k with hh | hh | hh
                  · exact absurd k3 (p4 k s hh (hall k (by omega)) k2)
                  · exact hh
                  · exact absurd p3 (k4 k' s' hh hk' p2)
                subst this
                rw [k2] at p2
                obtain rfl := Option.some.inj p2
                rw [k5]; exact p5
              · exact absurd k3 (p1 k s (hall k (by omega)) k2)
            · rw [k2]
              rcases I.ts x hx with ⟨k', s', p1, p2, p3, _, _⟩ | ⟨_, p2⟩
              · exact absurd p3 (k1 k' s' (List.getElem?_eq_some_iff.1 p2).1 p2)
              · exact p2.mono agB
          · have hge := Nat.le_of_not_lt hx
            rw [l2 x (by rw [I.tn]; exact hge), Array.getD_eq_getD_getElem?, Array.getElem?_eq_none hge]
            exact (I.hi x hge).mono agB
        have EV : Evol m E h w E1 (h ++ (st.map (·.new)).flatten) w1 := by
          refine ⟨I.agree.le hm, I.frame, fun b hb => I.own b (by rw [hHS]; exact hb), I.size, I.os, I.tape, I.output⟩
        refine tail_any c2 c3' (ops.size - t) t listed fuel a1 w1 rfl (Nat.le_refl _) hs hSi hcount ?_
        refine evOps_sound hev ops _ _ _ _ _ _ _ _ h2 o2 E1 w1 a1 _ G R I.defers ?_
        intro E' w' a' g' ev' r' d'
        exact ⟨ts', h', E', g', EV.trans ev' (by rw [I.n]; omega), r', d', rfl, rfl, rfl⟩
      -- all orders
      have all : ∀ (fuel : Nat) (listed : Array Bool) (E1 : Env) (a1 : Act) (w1 : World), FInv st ts h E w (SOf listed) E1 a1 w1 → listed.size = ops.size → Closed ops (SOf listed) → (∀ i, t ≤ i → i < ops.size → SOf listed i = false) →
          ((List.range ops.size).filter fun i => !listed.getD i true).length ≤ fuel → wpAny P .any ops (APost m E h w fun e tt k => e = .normal ∧ tt = ts' ∧ k = h') fuel listed a1 w1 := by
        intro fuel
        induction fuel with
        | zero =>
          intro listed E1 a1 w1 I hs hc htl hfu
          refine fin 0 listed E1 a1 w1 I hs (fun i hi => ?_) htl hfu
          unfold SOf
          rw [← getD_tf (by omega)]
          cases hl : listed.getD i true with
          | true => rfl
          | false =>
            have : i ∈ (List.range ops.size).filter fun i => !listed.getD i true := by
              rw [List.mem_filter]; exact ⟨List.mem_range.2 (by omega), by rw [hl]; rfl⟩
            rw [List.eq_nil_of_length_eq_zero (Nat.le_zero.1 hfu)] at this
            simp at this
        | succ fuel ih =>
          intro listed E1 a1 w1 I hs hc htl hfu
          by_cases hall : ∀ i, i < t → SOf listed i = true
          · exact fin _ listed E1 a1 w1 I hs hall htl hfu
          · have hnr : ∀ j, j ∈ Region.ready .any ops listed → j < t := by
              intro j hj
              rw [mem_ready] at hj
              obtain ⟨_, o, ho', hdir⟩ := hj
              rcases Nat.lt_or_ge j t with h1 | h1
              · exact h1
              · exfalso
                apply hall
                intro i hi
                have hjl := (Array.getElem?_eq_some_iff.1 ho').1
                have hb : (pl.getD j 0).testBit i = true := by
                  rw [forced_spec c3' (by simpa using hjl) h1]
                  exact pow_bits (by omega)
                exact (waits_done c2 hc j o ho' hdir i hb).1
            refine ⟨fun hr0 => ?_, fun j hj => ?_⟩
            · exfalso
              apply hall
              intro i hi
              unfold SOf
              rw [← getD_tf (by omega)]
              exact unlisted_zero c2 hs hr0 ops.size i (by omega) (by omega)
            · have hjt := hnr j hj
              have hj' := hj
              rw [mem_ready] at hj'
              obtain ⟨h0, o, ho', hdir⟩ := hj'
              have hjs : st[j]? = some st[j] := List.getElem?_eq_getElem (by omega)
              have hjl : j < listed.size := by omega
              have hSj : SOf listed j = false := by unfold SOf; rw [← getD_tf hjl]; exact h0
              refine front_step F I hjs hSj ?_ ?_ ?_
              · intro k hk
                simp only [Bool.and_eq_true] at hk
                exact (waits_done c2 hc j o ho' hdir k hk.2).1
              · intro k hk
                cases hb : (decide (k < t) && (pl.getD k 0).testBit j) with
                | false => rfl
                | true =>
                  exfalso
                  simp only [Bool.and_eq_true, decide_eq_true_eq] at hb
                  have hkl : k < ops.size := by omega
                  have := (waits_done c2 hc k ops[k] (Array.getElem?_eq_getElem hkl) (hc k _ (Array.getElem?_eq_getElem hkl) hk) j hb.2).1
                  rw [hSj] at this
                  exact Bool.noConfusion this
              · intro E2 a2 w2 I2
                rw [← SOf_set hjl] at I2
                refine ih (listed.setIfInBounds j true) E2 a2 w2 I2 (by simpa using hs) (closed_set hs hc hj) ?_ ?_
                · intro i hi hil
                  rw [SOf_set hjl]
                  simp only [htl i hi hil, Bool.false_or]
                  cases hb : Nat.beq i j
                  · rfl
                  · have := Nat.eq_of_beq_eq_true hb; omega
                · have := unl_set (n := ops.size) (by omega) hs h0
                  omega
      refine all ops.size _ _ a _ I0 (by simp) ?_ ?_ ?_
      · intro i o _ hi
        unfold SOf at hi
        rw [Array.getD_eq_getD_getElem?, Array.getElem?_replicate] at hi
        split at hi <;> exact Bool.noConfusion hi
      · intro i _ _
        unfold SOf
        rw [Array.getD_eq_getD_getElem?, Array.getElem?_replicate]
        split <;> rfl
      · exact Nat.le_trans (List.length_filter_le _ _) (by simp)
    · simp at he
  · simp at he

end
end Go.AX
