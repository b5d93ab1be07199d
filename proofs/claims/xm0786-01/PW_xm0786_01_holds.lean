import PyProof.Rows.All
import Wide.All
import OpenK.AllK
import Wide.FinOn
import PySem.Challenge.RW_xm0786_01
open PySem PySem.W PyProof.Rows
set_option Elab.async false
namespace Mine
abbrev srcObj (a b : Int) (ta tb : Tok) : Obj := PySem.W.listOf #[.int a ta, .int b tb] 0
structure TakeMark : Prop where
structure PoolMark : Prop where

/-- where a call of _law_take ends -/
def TakeP (h₀ : Heap) (L : Addr) (m : Str → Option Value) (pre post : List (Addr × Obj)) (l : Addr) (top : Int) (s : Shared) (v : Value) (s' : Shared) : Prop :=
  ∃ (r : Int) (t : Tok) (a b : Int) (ta tb : Tok) (h : Heap) (tk : Nat), v = .int r t ∧ s' = { s with heap := h, toks := tk } ∧ (0 ≤ r ∧ r < top) ∧ (0 ≤ a ∧ 0 ≤ b ∧ b < 2147483647) ∧ Fr h₀ L h m ∧ News h₀ L h (pre ++ (l, srcObj a b ta tb) :: post)

theorem take_end {h₀ h : Heap} {L l : Addr} {m : Str → Option Value} {pre post : List (Addr × Obj)} {top : Int} {s s' : Shared} {v : Value} {r a b : Int} {t ta tb : Tok} {tk : Nat}
    (hv : v = .int r t) (hs : s' = { s with heap := h, toks := tk }) (F : Fr h₀ L h m) (N : News h₀ L h (pre ++ (l, srcObj a b ta tb) :: post))
    (hr : 0 ≤ r ∧ r < top) (hab : 0 ≤ a ∧ 0 ≤ b ∧ b < 2147483647) : TakeP h₀ L m pre post l top s v s' :=
  ⟨r, t, a, b, ta, tb, h, tk, hv, hs, hr, hab, F, N⟩

theorem take_meet {M : Model} {A : Around} {E : Value → Shared → Prop} {Q : Value → Shared → Prop} {s : Shared} {h₀ : Heap} {L l : Addr} {m : Str → Option Value} {pre post : List (Addr × Obj)} {f : Addr} {top : Int} {tt : Tok} {a b : Int} {ta tb : Tok}
    (F0 : Fr h₀ L s.heap m) (N0 : News h₀ L s.heap (pre ++ (l, srcObj a b ta tb) :: post))
    (hc : TakeMark → wpAny M A (call (.ref f) [.ref l, .int top tt]) (fun v s₂ => TakeP h₀ L m pre post l top s v s₂) E s)
    (hk : ∀ (r : Int) (t : Tok) (a b : Int) (ta tb : Tok) (h : Heap) (tk : Nat), (0 ≤ r ∧ r < top) → (0 ≤ a ∧ 0 ≤ b ∧ b < 2147483647) → Fr h₀ L h m → News h₀ L h (pre ++ (l, srcObj a b ta tb) :: post) → Q (.int r t) { s with heap := h, toks := tk }) :
    wpAny M A (call (.ref f) [.ref l, .int top tt]) Q E s := by
  refine wpAny_mono (hc ⟨⟩) (fun v s₂ hq => ?_) fun _ _ h => h
  obtain ⟨r, t, a, b, ta, tb, h, tk, hv, hs, hr, hab, F, N⟩ := hq
  subst hv
  subst hs
  exact hk r t a b ta tb h tk hr hab F N

/-- where a call of _law_pool ends -/
def PoolP (h₀ : Heap) (L : Addr) (m : Str → Option Value) (post : List (Addr × Obj)) (s : Shared) (v : Value) (s' : Shared) : Prop :=
  ∃ (l : Addr) (a b : Int) (ta tb : Tok) (h : Heap) (tk : Nat), v = .ref l ∧ s' = { s with heap := h, toks := tk } ∧ (0 ≤ a ∧ 0 ≤ b ∧ b < 2147483647) ∧ AllLt l post ∧ Fr h₀ L h m ∧ News h₀ L h ((l, srcObj a b ta tb) :: post)

theorem pool_end {h₀ h : Heap} {L l : Addr} {m : Str → Option Value} {post : List (Addr × Obj)} {s s' : Shared} {v : Value} {a b : Int} {ta tb : Tok} {tk : Nat}
    (hv : v = .ref l) (hs : s' = { s with heap := h, toks := tk }) (F : Fr h₀ L h m) (N : News h₀ L h ((l, srcObj a b ta tb) :: post))
    (hl : AllLt l post) (hab : 0 ≤ a ∧ 0 ≤ b ∧ b < 2147483647) : PoolP h₀ L m post s v s' :=
  ⟨l, a, b, ta, tb, h, tk, hv, hs, hab, hl, F, N⟩

theorem pool_meet {M : Model} {A : Around} {E : Value → Shared → Prop} {Q : Value → Shared → Prop} {s : Shared} {h₀ : Heap} {L x : Addr} {m : Str → Option Value} {post : List (Addr × Obj)} {f : Addr}
    (F0 : Fr h₀ L s.heap m) (N0 : News h₀ L s.heap post)
    (hc : PoolMark → wpAny M A (call (.ref f) [.ref x]) (fun v s₂ => PoolP h₀ L m post s v s₂) E s)
    (hk : ∀ (l : Addr) (a b : Int) (ta tb : Tok) (h : Heap) (tk : Nat), (0 ≤ a ∧ 0 ≤ b ∧ b < 2147483647) → AllLt l post → Fr h₀ L h m → News h₀ L h ((l, srcObj a b ta tb) :: post) → Q (.ref l) { s with heap := h, toks := tk }) :
    wpAny M A (call (.ref f) [.ref x]) Q E s := by
  refine wpAny_mono (hc ⟨⟩) (fun v s₂ hq => ?_) fun _ _ h => h
  obtain ⟨l, a, b, ta, tb, h, tk, hv, hs, hab, hl, F, N⟩ := hq
  subst hv
  subst hs
  exact hk l a b ta tb h tk hab hl F N

theorem pool_fst (c d : Int) [Decidable (10 ^ d.toNat ≤ c)] : 0 ≤ c * (if decide (10 ^ d.toNat ≤ c) = true then 1 else 0) := by
  by_cases h : 10 ^ d.toNat ≤ c
  · simp only [h, decide_true, if_true, Int.mul_one]
    exact Int.le_trans (Int.le_of_lt (Int.pow_pos (by omega))) h
  · simp [h]
theorem pool_snd (x : Int) : 0 ≤ x.fmod 2147483647 ∧ x.fmod 2147483647 < 2147483647 :=
  ⟨Int.fmod_nonneg_of_pos _ (by omega), Int.fmod_lt_of_pos _ (by omega)⟩
theorem take_r {x top : Int} (h : 0 < top) : 0 ≤ x.fmod top ∧ x.fmod top < top :=
  ⟨Int.fmod_nonneg_of_pos _ h, Int.fmod_lt_of_pos _ h⟩
theorem take_ab {a b top : Int} (ha : 0 ≤ a) (h : 0 < top) (hb : 0 ≤ b ∧ b < 2147483647) : 0 ≤ a.fdiv top ∧ 0 ≤ b ∧ b < 2147483647 :=
  ⟨Int.fdiv_nonneg ha (by omega), hb⟩
theorem sq_fits (a x y : Int) : IntMulOk ([a, x.fmod 2147483647].getD (Int.toNat 1) 0) y := by
  have h : [a, x.fmod 2147483647].getD (Int.toNat 1) 0 = x.fmod 2147483647 := rfl
  rw [h]
  have h1 := (pool_snd x).1
  have h2 := (pool_snd x).2
  exact PySem.IntMulOk.of_left (PySem.intBits_le_64 (by omega) (by omega))
abbrev RowT := List Value × List Int × Nat × Int × Int × Tok × Tok
def RowLed (D : Addr) (oD : Obj) (lr ls : Addr) (rest : List (Addr × Obj)) : RowT → List (Addr × Obj) := fun c => (D, oD) :: (lr, PySem.W.listOf c.1.toArray c.2.2.1) :: (ls, srcObj c.2.2.2.1 c.2.2.2.2.1 c.2.2.2.2.2.1 c.2.2.2.2.2.2) :: rest
def RowPs : RowT → List (Str × Value) := fun _ => []
def RowFacts : RowT → Prop := fun c => IntsAre c.1 c.2.1 ∧ (0 ≤ c.2.2.2.1 ∧ 0 ≤ c.2.2.2.2.1 ∧ c.2.2.2.2.1 < 2147483647)
def RowP : List Int → RowT → Prop := fun pre c => c.1.length = pre.length ∧ c.2.1.length = pre.length

theorem row_loop {prog : Program} {w : World} {A : Around} {E : Value → Shared → Prop} {s : Shared} {env : Env} {h₀ : Heap} {x : Str} {body : List Stmt} {Q : Flow → Shared → Prop}
    {r : Addr} {t₀ u₀ v₀ : Tok} {m₀ : Str → Option Value} {D lr ls : Addr} {oD : Obj} {rest : List (Addr × Obj)} {a b : Int} {ta tb : Tok} (stored : List Str)
    (hh : A.handled = none) (hr : IsRange s.heap r 0 16 1 t₀ u₀ v₀) (F : Fr h₀ env.locals s.heap m₀)
    (N : News h₀ env.locals s.heap ((D, oD) :: (lr, PySem.W.listOf #[] 0) :: (ls, srcObj a b ta tb) :: rest)) (hab : 0 ≤ a ∧ 0 ≤ b ∧ b < 2147483647)
    (turn : ∀ (vs : List Value) (ns : List Int) (n : Nat) (a b : Int) (ta tb : Tok) (pre : List Int) (k : Int) (t : Tok) (u : Str → Option Value) (h : Heap) (tk : Nat) (own : List (Addr × Obj)),
      k = (pre.length : Int) → pre.length < 16 → vs.length = pre.length → ns.length = pre.length → IntsAre vs ns → (0 ≤ a ∧ 0 ≤ b ∧ b < 2147483647) →
      OwnOff own (D :: lr :: ls :: rest.map (·.1)) → KstMark →
      Fr h₀ env.locals h (fun y => if y = x then some (.int k t) else if stored.contains y then u y else m₀ y) →
      News h₀ env.locals h ((D, oD) :: (lr, PySem.W.listOf vs.toArray n) :: (ls, srcObj a b ta tb) :: (rest ++ own)) →
      wpAny (model prog w) A (execs body env) (InvPostN h₀ env.locals (KstS (RowLed D oD lr ls rest) RowPs RowFacts x stored m₀ RowP (pre ++ [k])) own (D :: lr :: ls :: rest.map (·.1)) { s with heap := h, toks := tk } Q) E { s with heap := h, toks := tk })
    (done : ∀ (vs : List Value) (ns : List Int) (n : Nat) (a b : Int) (ta tb : Tok) (u : Str → Option Value) (h : Heap) (tk : Nat),
      vs.length = 16 → ns.length = 16 → IntsAre vs ns → (0 ≤ a ∧ 0 ≤ b ∧ b < 2147483647) → KstMark →
      Fr h₀ env.locals h (fun y => if y = x then u y else if stored.contains y then u y else m₀ y) →
      News h₀ env.locals h ((D, oD) :: (lr, PySem.W.listOf vs.toArray n) :: (ls, srcObj a b ta tb) :: rest) → Q .next { s with heap := h, toks := tk }) :
    wpAny (model prog w) A (pyIter (.ref r)) (fun it s₂ => LoopAtV prog w A h₀ env x body Q E it s₂) E s := by
  refine kst_range (σ := RowT) (n := 16) (RowLed D oD lr ls rest) RowPs RowFacts stored RowP ([], [], 0, a, b, ta, tb) hh hr (by decide) (by decide) F N ⟨.nil, hab⟩ (fun _ hp => nomatch hp) ⟨rfl, rfl⟩ ?_ ?_
  · rintro ⟨vs, ns, n, a, b, ta, tb⟩ pre k t u h tk own hk hlt hoff ⟨hi, hab⟩ ⟨h1, h2⟩ F N
    exact turn vs ns n a b ta tb pre k t u h tk own (by omega) hlt h1 h2 hi hab hoff kstMark F N
  · rintro ⟨vs, ns, n, a, b, ta, tb⟩ u h tk ⟨hi, hab⟩ ⟨h1, h2⟩ F N
    rw [rangeKs_length] at h1 h2
    exact done vs ns n a b ta tb u h tk h1 h2 hi hab kstMark F N

theorem row_end {h₀ h' : Heap} {x : Str} {stored : List Str} {m₀ m' : Str → Option Value} {D lr ls : Addr} {oD : Obj} {ot : Addr × Obj} {rest own : List (Addr × Obj)} {L : Addr} {adr : List Addr} {s₁ : Shared} {tk : Nat}
    {vs : List Value} {ns : List Int} {n : Nat} {a b : Int} {ta tb : Tok} {pre : List Int}
    (F : Fr h₀ L h' m') (N : News h₀ L h' (ot :: (D, oD) :: (lr, PySem.W.listOf vs.toArray n) :: (ls, srcObj a b ta tb) :: (rest ++ own)))
    (ha : D :: lr :: ls :: rest.map (·.1) = adr) (hi : IntsAre vs ns) (hab : 0 ≤ a ∧ 0 ≤ b ∧ b < 2147483647) (h1 : vs.length = pre.length) (h2 : ns.length = pre.length)
    (hr : ∀ z, z ≠ x → stored.contains z = false → m' z = m₀ z) :
    InvEndN h₀ L (KstS (RowLed D oD lr ls rest) RowPs RowFacts x stored m₀ RowP pre) own adr s₁ { s₁ with heap := h', toks := tk } :=
  kst_end (σ := RowT) (vs, ns, n, a, b, ta, tb) F N (fun p hp => by
    refine List.mem_cons_of_mem _ ?_
    have e : ((D, oD) :: (lr, PySem.W.listOf vs.toArray n) :: (ls, srcObj a b ta tb) :: (rest ++ own)) = ((D, oD) :: (lr, PySem.W.listOf vs.toArray n) :: (ls, srcObj a b ta tb) :: rest) ++ own := rfl
    rw [e]
    exact List.mem_append.mpr (.inl hp)) (fun p hp => by
    refine List.mem_cons_of_mem _ (List.mem_cons_of_mem _ (List.mem_cons_of_mem _ (List.mem_cons_of_mem _ (List.mem_append.mpr (.inr hp)))))) ha ⟨hi, hab⟩ (fun _ hp => nomatch hp) (fun z h1 _ h3 => hr z h1 h3) ⟨h1, h2⟩
structure OneMark : Prop where
/-- where a call of _law_one ends -/
def OneP (h₀ : Heap) (L : Addr) (m : Str → Option Value) (pre post : List (Addr × Obj)) (lt l : Addr) (oT : Obj) (xs : List Int) (s : Shared) (v : Value) (s' : Shared) : Prop :=
  ∃ (e : Int) (t : Tok) (a b : Int) (ta tb : Tok) (h : Heap) (tk : Nat), v = .int e t ∧ s' = { s with heap := h, toks := tk } ∧ e ∈ xs ∧ (0 ≤ a ∧ 0 ≤ b ∧ b < 2147483647) ∧ Fr h₀ L h m ∧ News h₀ L h ((lt, oT) :: (pre ++ (l, srcObj a b ta tb) :: post))
theorem one_end {h₀ h : Heap} {L lt l : Addr} {oT : Obj} {m : Str → Option Value} {pre post : List (Addr × Obj)} {xs : List Int} {s s' : Shared} {v : Value} {e a b : Int} {t ta tb : Tok} {tk : Nat}
    (hv : v = .int e t) (hs : s' = { s with heap := h, toks := tk }) (F : Fr h₀ L h m) (N : News h₀ L h ((lt, oT) :: (pre ++ (l, srcObj a b ta tb) :: post)))
    (he : e ∈ xs) (hab : 0 ≤ a ∧ 0 ≤ b ∧ b < 2147483647) : OneP h₀ L m pre post lt l oT xs s v s' :=
  ⟨e, t, a, b, ta, tb, h, tk, hv, hs, he, hab, F, N⟩
theorem one_meet {M : Model} {A : Around} {E : Value → Shared → Prop} {Q : Value → Shared → Prop} {s : Shared} {h₀ : Heap} {L lt l : Addr} {m : Str → Option Value} {pre post : List (Addr × Obj)} {f : Addr} {a b : Int} {ta tb : Tok} {vs : List Value} {n : Nat} {xs : List Int}
    (F0 : Fr h₀ L s.heap m) (N0 : News h₀ L s.heap ((lt, PySem.W.listOf vs.toArray n) :: (pre ++ (l, srcObj a b ta tb) :: post))) (hi0 : IntsAre vs xs)
    (hc : OneMark → wpAny M A (call (.ref f) [.ref l, .ref lt]) (fun v s₂ => OneP h₀ L m pre post lt l (PySem.W.listOf vs.toArray n) xs s v s₂) E s)
    (hk : ∀ (e : Int) (t : Tok) (a b : Int) (ta tb : Tok) (h : Heap) (tk : Nat), e ∈ xs → (0 ≤ a ∧ 0 ≤ b ∧ b < 2147483647) → Fr h₀ L h m → News h₀ L h ((lt, PySem.W.listOf vs.toArray n) :: (pre ++ (l, srcObj a b ta tb) :: post)) → Q (.int e t) { s with heap := h, toks := tk }) :
    wpAny M A (call (.ref f) [.ref l, .ref lt]) Q E s := by
  refine wpAny_mono (hc ⟨⟩) (fun v s₂ hq => ?_) fun _ _ h => h
  obtain ⟨e, t, a, b, ta, tb, h, tk, hv, hs, he, hab, F, N⟩ := hq
  subst hv
  subst hs
  exact hk e t a b ta tb h tk he hab F N
theorem end_bounds {e s r : Int} (h : e ∈ [15, s - 1, s + r]) (hs : 0 ≤ s ∧ s < 16) (hr : 0 ≤ r ∧ r < 16 - s) : s - 1 ≤ e ∧ e ≤ 15 := by
  simp only [List.mem_cons, List.not_mem_nil, or_false] at h
  omega
theorem getD_in {xs : List Int} {r : Int} (h : r.toNat < xs.length) : xs.getD r.toNat 0 ∈ xs := by
  rw [List.getD_eq_getElem?_getD, List.getElem?_eq_getElem h]
  exact List.getElem_mem h
def absI (x : Int) : Int := if x < 0 then -x else x
def LastSpec (ns : List Int) (P st e p : Int) : Prop :=
  (st - 1 ≤ p ∧ p ≤ e) ∧ (∀ i : Int, p < i → i ≤ e → absI (ns.getD i.toNat 0) < P) ∧ (st ≤ p → P ≤ absI (ns.getD p.toNat 0))
theorem two_pow_pos (k : Nat) : (0 : Int) < 2 ^ k := Int.pow_pos (by omega)
theorem fdiv_zero {x P : Int} (hP : 0 < P) (hx : 0 ≤ x) (h : x.fdiv P = 0) : x < P := by
  have e := Int.mul_fdiv_add_fmod x P
  have l := Int.fmod_lt_of_pos x hP
  rw [h] at e
  omega
theorem fdiv_nz {x P : Int} (hP : 0 < P) (hx : 0 ≤ x) (h : ¬ x.fdiv P = 0) : P ≤ x := by
  by_cases hl : x < P
  · exact absurd (by rw [Int.fdiv_eq_ediv_of_nonneg _ (Int.le_of_lt hP)]; exact Int.ediv_eq_zero_of_lt hx hl) h
  · omega
theorem lt_pos {x : Int} {k : Nat} (h : 0 ≤ x) (h0 : x.fdiv (2 ^ k) = 0) : absI x < 2 ^ k := by
  have := fdiv_zero (two_pow_pos k) h h0
  unfold absI; split <;> omega
theorem lt_neg {x : Int} {k : Nat} (h : x < 0) (h0 : (-x).fdiv (2 ^ k) = 0) : absI x < 2 ^ k := by
  have := fdiv_zero (two_pow_pos k) (by omega) h0
  unfold absI; split <;> omega
theorem ge_pos {x : Int} {k : Nat} (h : 0 ≤ x) (h0 : ¬ x.fdiv (2 ^ k) = 0) : 2 ^ k ≤ absI x := by
  have := fdiv_nz (two_pow_pos k) h h0
  unfold absI; split <;> omega
theorem ge_neg {x : Int} {k : Nat} (h : x < 0) (h0 : ¬ (-x).fdiv (2 ^ k) = 0) : 2 ^ k ≤ absI x := by
  have := fdiv_nz (two_pow_pos k) (by omega) h0
  unfold absI; split <;> omega
theorem maps_eq (ns : List Int) (P : Int) :
    List.map (fun k' => if 0 ≤ k' then k'.fdiv P else -(-k').fdiv P) ns = List.map (fun k' => if 0 < k' then (if k' < 0 then -k' else k').fdiv P else 0 - (if k' < 0 then -k' else k').fdiv P) ns := by
  refine List.map_congr_left fun k _ => ?_
  by_cases h0 : k = 0
  · subst h0; simp
  · by_cases h : 0 < k
    · rw [if_pos (by omega), if_pos h, if_neg (by omega)]
    · rw [if_neg (by omega), if_neg h, if_pos (by omega)]; omega

theorem mem_fold {ns : List Int} {P : Int} (x : Int) : ∀ (ks acc : List Int),
    x ∈ List.foldl (fun l' k' => if P ≤ (if ns.getD k'.toNat 0 < 0 then -ns.getD k'.toNat 0 else ns.getD k'.toNat 0) then l' ++ [k'] else l') acc ks ↔ x ∈ acc ∨ (x ∈ ks ∧ P ≤ absI (ns.getD x.toNat 0))
  | [], acc => by simp
  | k :: ks, acc => by
    rw [List.foldl_cons, mem_fold x ks]
    by_cases h : P ≤ (if ns.getD k.toNat 0 < 0 then -ns.getD k.toNat 0 else ns.getD k.toNat 0)
    · rw [if_pos h]
      have h' : P ≤ absI (ns.getD k.toNat 0) := h
      simp only [List.mem_append, List.mem_cons, List.not_mem_nil, or_false]
      constructor
      · rintro ((h1 | h1) | h1)
        · exact .inl h1
        · subst h1; exact .inr ⟨.inl rfl, h'⟩
        · exact .inr ⟨.inr h1.1, h1.2⟩
      · rintro (h1 | ⟨h1 | h1, h2⟩)
        · exact .inl (.inl h1)
        · exact .inl (.inr h1)
        · exact .inr ⟨h1, h2⟩
    · rw [if_neg h]
      have h' : ¬ P ≤ absI (ns.getD k.toNat 0) := h
      simp only [List.mem_cons]
      constructor
      · rintro (h1 | h1)
        · exact .inl h1
        · exact .inr ⟨.inr h1.1, h1.2⟩
      · rintro (h1 | ⟨h1 | h1, h2⟩)
        · exact .inl h1
        · subst h1; exact absurd h2 h'
        · exact .inr ⟨h1, h2⟩

theorem mem_rangeKs {a x : Int} {n : Nat} : x ∈ rangeKs a n ↔ a ≤ x ∧ x < a + n := by
  unfold rangeKs
  simp only [List.mem_map, List.mem_range]
  constructor
  · rintro ⟨i, hi, rfl⟩
    omega
  · rintro ⟨h1, h2⟩
    exact ⟨(x - a).toNat, by omega, by omega⟩

/-- the plain law: the downward search and the greatest of the filtered range agree -/
theorem last_law {ns : List Int} {P st e p M : Int} (hp : LastSpec ns P st e p)
    (h1 : M ∈ List.foldl (fun l' k' => if P ≤ (if ns.getD k'.toNat 0 < 0 then -ns.getD k'.toNat 0 else ns.getD k'.toNat 0) then l' ++ [k'] else l') [] (rangeKs st (e + 1 - st).toNat) ++ [st - 1])
    (h2 : ∀ a : Int, a ∈ List.foldl (fun l' k' => if P ≤ (if ns.getD k'.toNat 0 < 0 then -ns.getD k'.toNat 0 else ns.getD k'.toNat 0) then l' ++ [k'] else l') [] (rangeKs st (e + 1 - st).toNat) ++ [st - 1] → a ≤ M) : p = M := by
  obtain ⟨⟨ha, hb⟩, hlt, hge⟩ := hp
  simp only [List.mem_append, mem_fold, mem_rangeKs, List.not_mem_nil, false_or, List.mem_singleton] at h1 h2
  have hM : st - 1 ≤ M := h2 _ (.inr rfl)
  have hpM : p ≤ M := by
    by_cases hs : st ≤ p
    · exact h2 p (.inl ⟨⟨hs, by omega⟩, hge hs⟩)
    · omega
  rcases h1 with ⟨⟨h3, h4⟩, h5⟩ | h1
  · by_cases hlt' : p < M
    · exact absurd (hlt M hlt' (by omega)) (by omega)
    · omega
  · omega
structure LastMark (ns : List Int) (P st e : Int) : Prop where
/-- where a call of last_place ends -/
def LastP (h₀ : Heap) (L : Addr) (m : Str → Option Value) (news : List (Addr × Obj)) (ns : List Int) (P st e : Int) (s : Shared) (v : Value) (s' : Shared) : Prop :=
  ∃ (p : Int) (t : Tok) (h : Heap) (tk : Nat), v = .int p t ∧ s' = { s with heap := h, toks := tk } ∧ LastSpec ns P st e p ∧ Fr h₀ L h m ∧ News h₀ L h news
theorem last_end {h₀ h : Heap} {L : Addr} {m : Str → Option Value} {news : List (Addr × Obj)} {ns : List Int} {P st e : Int} {s s' : Shared} {v : Value} {p : Int} {t : Tok} {tk : Nat}
    (hv : v = .int p t) (hs : s' = { s with heap := h, toks := tk }) (F : Fr h₀ L h m) (N : News h₀ L h news) (hp : LastSpec ns P st e p) : LastP h₀ L m news ns P st e s v s' :=
  ⟨p, t, h, tk, hv, hs, hp, F, N⟩
theorem last_meet {M : Model} {A : Around} {E : Value → Shared → Prop} {Q : Value → Shared → Prop} {s : Shared} {h₀ : Heap} {L lr f : Addr} {m : Str → Option Value} {news : List (Addr × Obj)} {vs : List Value} {n : Nat} {ns : List Int} {st e low : Int} {u1 u2 u3 : Tok}
    (hm0 : (lr, PySem.W.listOf vs.toArray n) ∈ news) (hi0 : IntsAre vs ns) (F0 : Fr h₀ L s.heap m) (N0 : News h₀ L s.heap news)
    (hc : LastMark ns (2 ^ low.toNat) st e → wpAny M A (call (.ref f) [.ref lr, .int st u1, .int e u2, .int low u3]) (fun v s₂ => LastP h₀ L m news ns (2 ^ low.toNat) st e s v s₂) E s)
    (hk : ∀ (p : Int) (t : Tok) (h : Heap) (tk : Nat), LastSpec ns (2 ^ low.toNat) st e p → Fr h₀ L h m → News h₀ L h news → Q (.int p t) { s with heap := h, toks := tk }) :
    wpAny M A (call (.ref f) [.ref lr, .int st u1, .int e u2, .int low u3]) Q E s := by
  refine wpAny_mono (hc ⟨⟩) (fun v s₂ hq => ?_) fun _ _ h => h
  obtain ⟨p, t, h, tk, hv, hs, hp, F, N⟩ := hq
  subst hv
  subst hs
  exact hk p t h tk hp F N

def LastEnd (h₀ : Heap) (L : Addr) (s : Shared) (news : List (Addr × Obj)) (m₀ : Str → Option Value) (ns : List Int) (P st p : Int) (s₂ : Shared) : Prop :=
  ∃ (h' : Heap) (tk : Nat) (t' : Tok) (m' : Str → Option Value), s₂ = { s with heap := h', toks := tk } ∧ Fr h₀ L h' m' ∧ News h₀ L h' news ∧ m' (Str.ofString "place") = some (.int (p - 1) t') ∧ (∀ z, z ≠ Str.ofString "place" → m' z = m₀ z) ∧ st ≤ p ∧ absI (ns.getD p.toNat 0) < P
def LastPost (h₀ : Heap) (L : Addr) (s : Shared) (news : List (Addr × Obj)) (m₀ : Str → Option Value) (ns : List Int) (P st p : Int) (Q : Flow → Shared → Prop) (f : Flow) (s₂ : Shared) : Prop :=
  match f with
  | .ret v => Q (.ret v) s₂
  | .brk => Q .next s₂
  | _ => LastEnd h₀ L s news m₀ ns P st p s₂
theorem lastEnd_of {h₀ : Heap} {L : Addr} {s : Shared} {news : List (Addr × Obj)} {m₀ m' : Str → Option Value} {ns : List Int} {P st p : Int} {h' : Heap} {tk : Nat} {t' : Tok}
    (F : Fr h₀ L h' m') (N : News h₀ L h' news) (hp : m' (Str.ofString "place") = some (.int (p - 1) t')) (hr : ∀ z, z ≠ Str.ofString "place" → m' z = m₀ z) (h1 : st ≤ p) (h2 : absI (ns.getD p.toNat 0) < P) :
    LastEnd h₀ L s news m₀ ns P st p { s with heap := h', toks := tk } := ⟨h', tk, t', m', rfl, F, N, hp, hr, h1, h2⟩

theorem last_while {prog : Program} {w : World} {A : Around} {E : Value → Shared → Prop} {Q : Flow → Shared → Prop} {s : Shared} {env : Env} {h₀ : Heap} {L : Addr} {test : PySem.Expr} {body : List Stmt} {pos : Pos}
    {m₀ : Str → Option Value} {news : List (Addr × Obj)} {ns : List Int} {P st e : Int} {t0 : Tok} (M0 : LastMark ns P st e) (hse : st - 1 ≤ e)
    (F : Fr h₀ L s.heap m₀) (N : News h₀ L s.heap news) (hm : m₀ (Str.ofString "place") = some (.int e t0))
    (turn : ∀ (p : Int) (t : Tok) (h : Heap) (tk : Nat), (st - 1 ≤ p ∧ p ≤ e) → (∀ i : Int, p < i → i ≤ e → absI (ns.getD i.toNat 0) < P) →
      Fr h₀ L h (fun y => if y = Str.ofString "place" then some (.int p t) else m₀ y) → News h₀ L h news →
      wpAny (model prog w) A (isTrue test env (eval test env)) (fun b s₂ =>
        if b = true then wpAny (model prog w) A (execs body env) (LastPost h₀ L s news m₀ ns P st p Q) E s₂ else Q .next s₂) E { s with heap := h, toks := tk })
    (hE : PassesOwn (model prog w) A env E := by passes_own) :
    wpAny (model prog w) A (exec (.While test body [] pos) env) Q E s := by
  refine ksw_while (σ := Int × Tok) (fun _ => news) (fun c => [(Str.ofString "place", .int c.1 c.2)]) (fun _ => True) [] (fun c => (st - 1 ≤ c.1 ∧ c.1 ≤ e) ∧ ∀ i : Int, c.1 < i → i ≤ e → absI (ns.getD i.toNat 0) < P) (fun c => (c.1 - st + 1).toNat) (e, t0) F N True.intro ?_ ⟨⟨hse, Int.le_refl _⟩, fun i h1 h2 => absurd h1 (by omega)⟩ ?_ hE
  · intro q hq
    rw [List.mem_singleton.mp hq]
    exact hm
  · rintro ⟨p, t⟩ u h tk _ ⟨hb, hlt⟩ F₁ N₁
    have em : kstB (fun z => if ([] : List Str).contains z then u z else m₀ z) [(Str.ofString "place", Value.int p t)] = fun y => if y = Str.ofString "place" then some (.int p t) else m₀ y := by
      funext y
      simp [kstB]
    dsimp only at F₁
    rw [em] at F₁
    refine wpAny_mono (turn p t h tk hb hlt F₁ N₁) (fun b s₂ q => ?_) fun _ _ x => x
    cases b with
    | false => simpa using q
    | true =>
      simp only [if_true] at q ⊢
      refine wpAny_mono q (fun f s₃ r => ?_) fun _ _ x => x
      have go : LastEnd h₀ L s news m₀ ns P st p s₃ → KswEnd h₀ L s (fun _ : Int × Tok => news) (fun c => [(Str.ofString "place", .int c.1 c.2)]) (fun _ => True) [] m₀ (fun c => (st - 1 ≤ c.1 ∧ c.1 ≤ e) ∧ ∀ i : Int, c.1 < i → i ≤ e → absI (ns.getD i.toNat 0) < P) (fun c => (c.1 - st + 1).toNat) (p, t) s₃ := by
        rintro ⟨h', tk', t', m', rfl, F', N', hp', hr', h1, h2⟩
        refine ksw_end (p - 1, t') F' N' (fun _ hp => hp) True.intro ?_ ?_ ⟨⟨by dsimp only; omega, by dsimp only; omega⟩, ?_⟩ (by dsimp only; omega)
        · intro q hq
          rw [List.mem_singleton.mp hq]
          exact hp'
        · intro z hz _
          exact hr' z (hz _ (List.mem_singleton.mpr rfl))
        · intro i hi1 hi2
          dsimp only at hi1
          by_cases hip : i = p
          · rw [hip]; exact h2
          · exact hlt i (by show p < i; omega) hi2
      cases f with
      | ret v => exact r
      | brk => exact r
      | next => exact go r
      | cont => exact go r
end Mine

open Mine
local macro_rules | `(tactic| mul_fits) => `(tactic| exact sq_fits _ _ _)
local macro_rules | `(tactic| walk_at "call ref") => `(tactic| focus (
  k_here;
  (with_reducible show wpAny _ _ (call (Value.ref _) [Value.ref _, Value.int _ _]) _ _ _);
  (fail_if_success (rename TakeMark => tM));
  (rename Fr _ _ _ _ => cF'); (rename News _ _ _ _ => cN');
  (first
    | (with_unfolding_all refine' take_meet (pre := []) cF' cN' (fun tM' => ?_) ?_)
    | (with_unfolding_all refine' take_meet (pre := [_]) cF' cN' (fun tM' => ?_) ?_)
    | (with_unfolding_all refine' take_meet (pre := [_, _]) cF' cN' (fun tM' => ?_) ?_)
    | (with_unfolding_all refine' take_meet (pre := [_, _, _]) cF' cN' (fun tM' => ?_) ?_));
  rotate_left; intro r' t' a' b' ta' tb' h' tk' hr' hab' F' N'; (simp only [List.nil_append, List.cons_append] at N'); (try k_sweep);
  rotate_left;
  (try k_fold);
  walk_say "TAKE MEETS"))
local macro_rules | `(tactic| walk_at "call ref") => `(tactic| focus (
  k_here;
  (with_reducible show wpAny _ _ (call (Value.ref _) [Value.ref _]) _ _ _);
  (fail_if_success (rename PoolMark => tM));
  (rename Fr _ _ _ _ => cF'); (rename News _ _ _ _ => cN');
  (with_unfolding_all refine' pool_meet cF' cN' (fun tM' => ?_) ?_);
  rotate_left; intro l' a' b' ta' tb' h' tk' hab' l1 F' N'; (try k_sweep); (simp only [AllLt, and_true] at l1);
  rotate_left;
  (try k_fold);
  walk_say "POOL MEETS"))
local macro_rules | `(tactic| walk_at "call ref") => `(tactic| focus (
  k_here;
  (with_reducible show wpAny _ _ (call (Value.ref _) [Value.ref _, Value.ref _]) _ _ _);
  (fail_if_success (rename OneMark => tM));
  (rename Fr _ _ _ _ => cF'); (rename News _ _ _ _ => cN');
  (first
    | (with_unfolding_all refine' one_meet (pre := []) cF' cN' (by repeat constructor) (fun tM' => ?_) ?_)
    | (with_unfolding_all refine' one_meet (pre := [_]) cF' cN' (by repeat constructor) (fun tM' => ?_) ?_)
    | (with_unfolding_all refine' one_meet (pre := [_, _]) cF' cN' (by repeat constructor) (fun tM' => ?_) ?_)
    | (with_unfolding_all refine' one_meet (pre := [_, _, _]) cF' cN' (by repeat constructor) (fun tM' => ?_) ?_));
  rotate_left; intro e' t' a' b' ta' tb' h' tk' he' hab' F' N'; (simp only [List.nil_append, List.cons_append] at N'); (try k_sweep); (try (have hE := end_bounds he' (by assumption) (by assumption))); (clear he');
  rotate_left;
  (try k_fold);
  walk_say "ONE MEETS"))
local macro_rules | `(tactic| walk_at "OneP") => `(tactic| (
  (rename News _ _ _ _ => nE');
  (k_dflt refine one_end (by with_unfolding_all rfl) rfl (by assumption) nE' ?he ?hab);
  (case he => exact getD_in (by (simp only [List.length_cons, List.length_nil]); omega));
  (case hab => assumption);
  walk_say "ONE ENDS"))
local macro_rules | `(tactic| walk_at "InvEndN") => `(tactic| (
  (rename News _ _ _ _ => nE'); (simp only [List.push_toArray] at nE');
  (k_dflt refine' row_end ?F ?N ?ha ?hi ?hab ?h1 ?h2 ?hr);
  (case N => k_dflt exact nE');
  (case F => k_dflt assumption);
  (case ha => k_dflt rfl);
  (case hi => exact IntsAre.append (by assumption) (.cons _ _ .nil));
  (case hab => assumption);
  (case h1 => ((simp only [List.length_append, List.length_cons, List.length_nil]); omega));
  (case h2 => ((simp only [List.length_append, List.length_cons, List.length_nil]); omega));
  (case hr => (intro z h1 h2; (simp only [List.contains_cons, List.contains_nil, Bool.or_false, beq_eq_false_iff_ne, ne_eq] at h2); (simp [h1, h2])));
  walk_say "ROW ENDS"))
local macro_rules | `(tactic| walk_at "call ref") => `(tactic| focus (
  k_here;
  (with_reducible show wpAny _ _ (call (Value.ref _) [Value.ref _, Value.int _ _, Value.int _ _, Value.int _ _]) _ _ _);
  (fail_if_success (rename LastMark _ _ _ _ => tM));
  (rename Fr _ _ _ _ => cF'); (rename News _ _ _ _ => cN');
  (with_unfolding_all refine' last_meet ?hm ?hi cF' cN' (fun tM' => ?_) ?_);
  (case hm => (with_unfolding_all k_memK));
  (case hi => assumption);
  rotate_left; intro p' t' h' tk' hp' F' N'; (try k_sweep);
  rotate_left;
  (try k_fold);
  walk_say "LAST MEETS"))
local macro_rules | `(tactic| walk_at "exec While BoolOp") => `(tactic| focus (
  k_here; (rename LastMark _ _ _ _ => tM');
  (rename Fr _ _ _ _ => cF'); (rename News _ _ _ _ => cN');
  (with_unfolding_all refine' last_while tM' (by omega) cF' cN' (by rfl) ?_);
  intro p' t' h' tk' hb' hlt' F' N'; (try k_sweep); (try k_fold);
  walk_say "LAST WHILE"))
local macro_rules | `(tactic| walk_at "LastPost") => `(tactic| (dsimp only [LastPost]))
local macro_rules | `(tactic| walk_at "LastEnd") => `(tactic| (
  (rename News _ _ _ _ => nE');
  (k_dflt refine' lastEnd_of ?F ?N ?hp ?hr ?h1 ?h2);
  (case N => k_dflt exact nE');
  (case F => k_dflt assumption);
  (case hp => with_unfolding_all rfl);
  (case hr => (intro z hz; simp [hz]));
  (case h1 => first | assumption | omega);
  (case h2 => first | exact lt_pos (by omega) (by omega) | exact lt_neg (by omega) (by omega));
  walk_say "LAST TURN"))
local macro_rules | `(tactic| walk_at "LastP") => `(tactic| (
  (rename News _ _ _ _ => nE');
  (k_dflt refine last_end (by with_unfolding_all rfl) rfl (by assumption) nE' ⟨by assumption, by assumption, ?h3⟩);
  (case h3 => first | (intro h9; exfalso; omega) | (intro h9; exact ge_pos (by omega) (by omega)) | (intro h9; exact ge_neg (by omega) (by omega)));
  walk_say "LAST ENDS"))
local macro_rules | `(tactic| walk_at "exec Return some") => `(tactic| (
  (rename LastSpec _ _ _ _ _ => hS');
  exact absurd (last_law hS' (by assumption) (by assumption)) (by assumption)))
local macro_rules | `(tactic| law_fin) => `(tactic| first | exact decide_eq_true (decide_eq_true (maps_eq _ _)) | exact decide_eq_true (maps_eq _ _))
local macro_rules | `(tactic| walk_at "TakeP") => `(tactic| (
  (rename News _ _ _ _ => nE');
  (k_dflt refine take_end (by with_unfolding_all rfl) rfl (by assumption) nE' ?hr ?hab);
  (case hr => exact take_r (by first | omega | decide));
  (case hab => first | exact take_ab (by omega) (by first | omega | decide) (by omega) | exact ⟨by omega, pool_snd _⟩);
  walk_say "TAKE ENDS"))
local macro_rules | `(tactic| walk_at "PoolP") => `(tactic| (
  (rename News _ _ _ _ => nE');
  (k_dflt refine pool_end (by with_unfolding_all rfl) rfl (by assumption) nE' ?hl ?hab);
  (case hl => kcu_lt);
  (case hab => exact ⟨pool_fst _ _, pool_snd _⟩);
  walk_say "POOL ENDS"))

local macro_rules | `(tactic| walk_at "pyIter ref") => `(tactic| focus (
  k_here;
  (with_reducible show wpAny _ _ (pyIter (Value.ref _)) (fun it s₂ => LoopAtV _ _ _ _ _ _ _ _ _ it s₂) _ _);
  walk_say "ROW";
  (rename Fr _ _ _ _ => lF'); (rename News _ _ _ _ => lN'); (rename IsRange _ _ _ _ _ _ _ _ => rgX);
  (with_unfolding_all refine' row_loop [Str.ofString "drawn"] (by rfl) rgX lF' lN' (by assumption) ?_ ?_);
  rotate_left;
  intro kVs kNs kn a' b' ta' tb' kU h' tk' kL1 kL2 kI hab' kMark F' N'; (try k_sweep); (try k_fold);
  rotate_left;
  intro kVs kNs kn a' b' ta' tb' kPre kK kT kU h' tk' kOwn kE kLt kL1 kL2 kI hab' kOff kMark F' N';
  (simp only [List.cons_append, List.nil_append] at N'); (simp only [List.map_cons, List.map_nil] at kOff); (try k_sweep); (try k_fold);
  walk_say "ROW LOOP"))


set_option maxRecDepth 100000 in
set_option maxHeartbeats 100000000 in
theorem PySem.Challenge.cw_xm0786_01_holds : PySem.Challenge.rw_xm0786_01.Holds := by
  open_k
