/-
  THE PLAIN LAWS OF HEAT: lists of acts, no program in sight. Nothing is imported.
-/
namespace Go.Proofs.Ytkeolmipdoeljaa
namespace Heat

/-- An act. -/
structure HAct where
  kind : Int
  ion : Int
  heat : Int
deriving DecidableEq

/-- A window. -/
structure HWin where
  ion : Int
  frm : Int
  to : Int
deriving DecidableEq

def isAct (n : Int) (a : HAct) : Bool := decide (0 ≤ a.kind ∧ a.kind ≤ 2 ∧ 0 ≤ a.ion ∧ a.ion ≤ n - 1 ∧ 0 ≤ a.heat ∧ a.heat ≤ 100 ∧ (a.kind < 2 ∨ a.heat = 0))
def areActs (n : Int) (l : List HAct) : Bool := l.all (isAct n)

/-- The error of a plan: 0, 1 (ErrArg), 3 (ErrLarge). -/
def validate (n : Int) (l : List HAct) : Int :=
  if 1 ≤ n ∧ n ≤ 4 then (if 20 < l.length then 3 else if areActs n l then 0 else 1) else 1
def limited (n : Int) (l : List HAct) (limit : Int) : Int :=
  if validate n l = 0 then (if 0 ≤ limit ∧ limit ≤ 100 then 0 else 1) else validate n l

/-- One act's change of one ion's heat. -/
def step (a : HAct) (h : Int) : Int := if a.kind = 2 then 0 else h + a.heat
/-- All heats behind an act. -/
def put (h : Int → Int) (a : HAct) : Int → Int := fun j => if j = a.ion then step a (h j) else h j
/-- All heats behind some acts. -/
def heats (h : Int → Int) (l : List HAct) : Int → Int := l.foldl put h
def cold : Int → Int := fun _ => 0

/-- A cooling of an ion. -/
def cool (j : Int) : HAct := ⟨2, j, 0⟩

/-- The plan with a cooling put in before each gate that would be too hot. -/
def putIn (limit : Int) : (Int → Int) → List HAct → List HAct
  | _, [] => []
  | h, a :: l => if a.kind = 1 ∧ limit < h a.ion then cool a.ion :: a :: putIn limit (put (put h (cool a.ion)) a) l else a :: putIn limit (put h a) l
/-- How many coolings are put in. -/
def cnt (limit : Int) : (Int → Int) → List HAct → Nat
  | _, [] => 0
  | h, a :: l => if a.kind = 1 ∧ limit < h a.ion then 1 + cnt limit (put (put h (cool a.ion)) a) l else cnt limit (put h a) l
/-- The places before which a cooling is put in. -/
def spots (limit : Int) : (Int → Int) → Nat → List HAct → List Nat
  | _, _, [] => []
  | h, i, a :: l => if a.kind = 1 ∧ limit < h a.ion then i :: spots limit (put (put h (cool a.ion)) a) (i + 1) l else spots limit (put h a) (i + 1) l
/-- The gates that are too hot. -/
def hotFrom (limit : Int) : (Int → Int) → Nat → List HAct → List Int
  | _, _, [] => []
  | h, i, a :: l => if a.kind = 1 ∧ limit < h a.ion then (i : Int) :: hotFrom limit (put h a) (i + 1) l else hotFrom limit (put h a) (i + 1) l
def hot (limit : Int) (l : List HAct) : List Int := hotFrom limit cold 0 l

/-- The heat of the ion of an act before it. -/
def before (l : List HAct) (i : Nat) : Int := heats cold (l.take i) ((l[i]?.map (·.ion)).getD 0)

theorem heats_nil (h : Int → Int) : heats h [] = h := rfl
theorem heats_cons (h : Int → Int) (a : HAct) (l : List HAct) : heats h (a :: l) = heats (put h a) l := rfl
theorem heats_append (h : Int → Int) (l m : List HAct) : heats h (l ++ m) = heats (heats h l) m := by simp [heats]
theorem heats_snoc (h : Int → Int) (l : List HAct) (a : HAct) : heats h (l ++ [a]) = put (heats h l) a := by simp [heats]

theorem putIn_length (limit : Int) (l : List HAct) : ∀ h, (putIn limit h l).length = l.length + cnt limit h l := by
  induction l with
  | nil => intro h; rfl
  | cons a l ih =>
    intro h
    simp only [putIn, cnt]
    split
    · simp [ih]; omega
    · simp [ih]; omega
theorem spots_length (limit : Int) (l : List HAct) : ∀ h i, (spots limit h i l).length = cnt limit h l := by
  induction l with
  | nil => intro h i; rfl
  | cons a l ih =>
    intro h i
    simp only [spots, cnt]
    split
    · simp [ih]; omega
    · simp [ih]

theorem cnt_append (limit : Int) (l m : List HAct) : ∀ h, ∃ h', cnt limit h (l ++ m) = cnt limit h l + cnt limit h' m := by
  induction l with
  | nil => intro h; exact ⟨h, by simp [cnt]⟩
  | cons a l ih =>
    intro h
    simp only [List.cons_append, cnt]
    split
    · obtain ⟨h', e⟩ := ih (put (put h (cool a.ion)) a)
      exact ⟨h', by omega⟩
    · exact ih _
theorem cnt_le_append (limit : Int) (l m : List HAct) (h : Int → Int) : cnt limit h l ≤ cnt limit h (l ++ m) := by
  obtain ⟨h', e⟩ := cnt_append limit l m h
  omega

/-! ### One ion alone -/

/-- How many coolings are put in for one ion, of its own acts. -/
def one (limit : Int) : Int → List HAct → Nat
  | _, [] => 0
  | h, a :: l => if a.kind = 1 ∧ limit < h then 1 + one limit (step a 0) l else one limit (step a h) l

def own (j : Int) (l : List HAct) : List HAct := l.filter fun a => decide (a.ion = j)

/-- The sum over the ions 0 .. k - 1. -/
def sumTo (f : Int → Nat) : Nat → Nat
  | 0 => 0
  | k + 1 => sumTo f k + f k
theorem sumTo_congr {f g : Int → Nat} (k : Nat) (h : ∀ i : Nat, i < k → f i = g i) : sumTo f k = sumTo g k := by
  induction k with
  | zero => rfl
  | succ k ih => simp only [sumTo]; rw [ih fun i hi => h i (by omega), h k (by omega)]
theorem sumTo_le {f g : Int → Nat} (k : Nat) (h : ∀ i : Nat, i < k → f i ≤ g i) : sumTo f k ≤ sumTo g k := by
  induction k with
  | zero => exact Nat.le_refl _
  | succ k ih =>
    simp only [sumTo]
    have := ih fun i hi => h i (by omega)
    have := h k (by omega)
    omega
theorem sumTo_add (f g : Int → Nat) (k : Nat) : sumTo (fun i => f i + g i) k = sumTo f k + sumTo g k := by
  induction k with
  | zero => rfl
  | succ k ih => simp only [sumTo]; rw [ih]; omega
/-- One term more by d, the others as they were. -/
theorem sumTo_bump {f g : Int → Nat} {d : Nat} (k : Nat) (j : Nat) (hj : j < k) (hd : f j = d + g j) (h : ∀ i : Nat, i < k → i ≠ j → f i = g i) : sumTo f k = d + sumTo g k := by
  induction k with
  | zero => omega
  | succ k ih =>
    simp only [sumTo]
    by_cases e : j = k
    · subst e
      rw [sumTo_congr (g := g) j fun i hi => h i (by omega) (by omega)]
      omega
    · rw [ih (by omega) fun i hi hne => h i (by omega) hne, h k (by omega) (fun x => e x.symm)]
      omega

theorem own_cons_same {j : Int} {a : HAct} (l : List HAct) (h : a.ion = j) : own j (a :: l) = a :: own j l := by simp [own, h]
theorem own_cons_other {j : Int} {a : HAct} (l : List HAct) (h : a.ion ≠ j) : own j (a :: l) = own j l := by simp [own, h]

theorem cnt_eq_sum (limit : Int) (k : Nat) (l : List HAct) : ∀ h : Int → Int, (∀ a ∈ l, 0 ≤ a.ion ∧ a.ion < k) → cnt limit h l = sumTo (fun j => one limit (h j) (own j l)) k := by
  induction l with
  | nil =>
    intro h _
    have : ∀ k, sumTo (fun j => one limit (h j) (own j [])) k = 0 := by
      intro k
      induction k with
      | zero => rfl
      | succ k ih => simp only [sumTo, ih]; rfl
    rw [this]; rfl
  | cons a l ih =>
    intro h hv
    have ha := hv a (by simp)
    have hl : ∀ b ∈ l, 0 ≤ b.ion ∧ b.ion < k := fun b hb => hv b (by simp [hb])
    obtain ⟨j, hj⟩ := Int.eq_ofNat_of_zero_le ha.1
    have hjk : j < k := by have := ha.2; omega
    simp only [cnt]
    split
    · rename_i hc
      rw [ih _ hl]
      refine (sumTo_bump k j hjk ?_ ?_).symm
      · rw [own_cons_same l hj]
        simp only [one]
        rw [if_pos ⟨hc.1, by rw [← hj]; exact hc.2⟩]
        congr 2
        simp [put, cool, step, hj]
      · intro i _ hne
        rw [own_cons_other l (by omega)]
        have e1 : put (put h (cool a.ion)) a i = h i := by
          have h1 : ¬ (i : Int) = a.ion := by omega
          have h2 : ¬ (i : Int) = (cool a.ion).ion := h1
          unfold put
          rw [if_neg h1, if_neg h2]
        rw [e1]
    · rename_i hc
      rw [ih _ hl]
      refine sumTo_congr k fun i _ => ?_
      by_cases e : (i : Int) = a.ion
      · rw [own_cons_same l e.symm]
        simp only [one]
        rw [if_neg (by rw [e]; exact hc)]
        simp [put, e]
      · rw [own_cons_other l (fun x => e x.symm)]
        simp [put, e]

/-- Acts that may be summed: no heat is below 0. -/
def Warm (l : List HAct) : Prop := ∀ a ∈ l, 0 ≤ a.heat
theorem Warm.tail {a : HAct} {l : List HAct} (h : Warm (a :: l)) : Warm l := fun b hb => h b (by simp [hb])
theorem Warm.own {l : List HAct} (h : Warm l) (j : Int) : Warm (own j l) := fun b hb => h b (List.mem_filter.1 hb).1

theorem step_nonneg {a : HAct} (ha : 0 ≤ a.heat) {h : Int} (hh : 0 ≤ h) : 0 ≤ step a h := by unfold step; split <;> omega
theorem step_mono (a : HAct) {h h' : Int} (hh : h ≤ h') : step a h ≤ step a h' := by unfold step; split <;> omega

/-- A greater limit, a smaller heat: no more coolings; a greater heat: at most one more. -/
theorem one_mono {L L' : Int} (hL : L ≤ L') (l : List HAct) (hw : Warm l) :
    (∀ h h', 0 ≤ h → 0 ≤ h' → h' ≤ h → one L' h' l ≤ one L h l) ∧ (∀ h h', 0 ≤ h → 0 ≤ h' → one L' h' l ≤ one L h l + 1) := by
  induction l with
  | nil => exact ⟨fun _ _ _ _ _ => Nat.le_refl _, fun _ _ _ _ => by simp [one]⟩
  | cons a l ih =>
    obtain ⟨i1, i2⟩ := ih hw.tail
    have ha : 0 ≤ a.heat := hw a (by simp)
    refine ⟨fun h h' p p' hle => ?_, fun h h' p p' => ?_⟩
    · simp only [one]
      have s0 := step_nonneg ha (Int.le_refl 0)
      have s1 := step_nonneg ha p
      have s2 := step_nonneg ha p'
      split <;> split
      · have := i1 _ _ s0 s0 (Int.le_refl _); omega
      · rename_i c1 c2; exact absurd ⟨c1.1, by omega⟩ c2
      · have := i2 (step a 0) (step a h') s0 s2; omega
      · exact i1 _ _ s1 s2 (step_mono a hle)
    · simp only [one]
      have s0 := step_nonneg ha (Int.le_refl 0)
      have s1 := step_nonneg ha p
      have s2 := step_nonneg ha p'
      split <;> split
      · have := i1 _ _ s0 s0 (Int.le_refl _); omega
      · have := i1 (step a h) (step a 0) s1 s0 (step_mono a p); omega
      · have := i2 (step a 0) (step a h') s0 s2; omega
      · exact i2 _ _ s1 s2

theorem cnt_mono {L L' : Int} (hL : L ≤ L') (k : Nat) (l : List HAct) (hw : Warm l) (hv : ∀ a ∈ l, 0 ≤ a.ion ∧ a.ion < k) : cnt L' cold l ≤ cnt L cold l := by
  rw [cnt_eq_sum L k l cold hv, cnt_eq_sum L' k l cold hv]
  exact sumTo_le k fun i _ => (one_mono hL _ (hw.own i)).1 0 0 (Int.le_refl _) (Int.le_refl _) (Int.le_refl _)

/-- 'l' is 'm' with some coolings left out, so many. -/
inductive Left : List HAct → List HAct → Nat → Prop
  | nil : Left [] [] 0
  | keep (a : HAct) {l m : List HAct} {k : Nat} : Left l m k → Left (a :: l) (a :: m) k
  | drop (a : HAct) {l m : List HAct} {k : Nat} : a.kind = 2 → Left l m k → Left l (a :: m) (k + 1)


theorem Left.length {l m : List HAct} {k : Nat} (h : Left l m k) : m.length = l.length + k := by
  induction h with
  | nil => rfl
  | keep a _ ih => simp [ih]; omega
  | drop a _ _ ih => simp [ih]; omega
theorem Left.warm {l m : List HAct} {k : Nat} (h : Left l m k) (hw : Warm m) : Warm l := by
  induction h with
  | nil => exact hw
  | keep a _ ih => intro b hb; rcases List.mem_cons.1 hb with e | e; exact hw b (by simp [e]); exact ih hw.tail b e
  | drop a _ _ ih => exact ih hw.tail
theorem Left.mem {l m : List HAct} {k : Nat} (h : Left l m k) : ∀ a ∈ l, a ∈ m := by
  induction h with
  | nil => intro a ha; exact ha
  | keep a _ ih => intro b hb; rcases List.mem_cons.1 hb with e | e; simp [e]; simp [ih b e]
  | drop a _ _ ih => intro b hb; simp [ih b hb]

/-- With coolings left out: no fewer coolings are put in, and at most so many more as were left out. -/
theorem one_left (L : Int) {l m : List HAct} {k : Nat} (hl : Left l m k) (hw : Warm m) :
    (∀ h h', 0 ≤ h → 0 ≤ h' → h' ≤ h → one L h' l ≤ one L h m + k) ∧ (∀ h h', 0 ≤ h → 0 ≤ h' → one L h' l ≤ one L h m + k + 1) ∧
    (∀ h h', 0 ≤ h → 0 ≤ h' → h ≤ h' → one L h m ≤ one L h' l) ∧ (∀ h h', 0 ≤ h → 0 ≤ h' → one L h m ≤ one L h' l + 1) := by
  induction hl with
  | nil => refine ⟨?_, ?_, ?_, ?_⟩ <;> intros <;> simp [one]
  | keep a hl ih =>
    obtain ⟨i1, i2, i3, i4⟩ := ih hw.tail
    have ha : 0 ≤ a.heat := hw a (by simp)
    have s0 := step_nonneg ha (Int.le_refl 0)
    refine ⟨fun h h' p p' hle => ?_, fun h h' p p' => ?_, fun h h' p p' hle => ?_, fun h h' p p' => ?_⟩
    all_goals
      simp only [one]
      have s1 := step_nonneg ha p
      have s2 := step_nonneg ha p'
    · split <;> split
      · have := i1 _ _ s0 s0 (Int.le_refl _); omega
      · rename_i c1 c2; exact absurd ⟨c1.1, by omega⟩ c2
      · have := i2 (step a 0) (step a h') s0 s2; omega
      · exact i1 _ _ s1 s2 (step_mono a hle)
    · split <;> split
      · have := i1 _ _ s0 s0 (Int.le_refl _); omega
      · have := i1 (step a h) (step a 0) s1 s0 (step_mono a p); omega
      · have := i2 (step a 0) (step a h') s0 s2; omega
      · exact i2 _ _ s1 s2
    · split <;> split
      · have := i3 _ _ s0 s0 (Int.le_refl _); omega
      · rename_i c1 c2; exact absurd ⟨c1.1, by omega⟩ c2
      · have := i4 (step a h) (step a 0) s1 s0; omega
      · exact i3 _ _ s1 s2 (step_mono a hle)
    · split <;> split
      · have := i3 _ _ s0 s0 (Int.le_refl _); omega
      · have := i3 (step a 0) (step a h') s0 s2 (step_mono a p'); omega
      · have := i4 (step a h) (step a 0) s1 s0; omega
      · exact i4 _ _ s1 s2
  | drop a hk hl ih =>
    obtain ⟨i1, i2, i3, i4⟩ := ih hw.tail
    have e : ∀ h m, one L h (a :: m) = one L 0 m := fun h m => by simp only [one]; rw [if_neg (by omega)]; simp [step, hk]
    refine ⟨fun h h' p p' hle => ?_, fun h h' p p' => ?_, fun h h' p p' hle => ?_, fun h h' p p' => ?_⟩
    all_goals rw [e]
    · have := i2 0 h' (Int.le_refl _) p'; omega
    · have := i2 0 h' (Int.le_refl _) p'; omega
    · exact i3 0 h' (Int.le_refl _) p' p'
    · have := i3 0 h' (Int.le_refl _) p' p'; omega

theorem Left.owns {l m : List HAct} {k : Nat} (hl : Left l m k) (K : Nat) (hv : ∀ a ∈ m, 0 ≤ a.ion ∧ a.ion < K) : ∃ f : Int → Nat, (∀ j, Left (own j l) (own j m) (f j)) ∧ sumTo f K = k := by
  induction hl with
  | nil =>
    refine ⟨fun _ => 0, fun j => Left.nil, ?_⟩
    clear hv
    induction K with
    | zero => rfl
    | succ K ih => simp only [sumTo, ih]
  | keep a hl ih =>
    obtain ⟨f, h1, h2⟩ := ih fun b hb => hv b (by simp [hb])
    refine ⟨f, fun j => ?_, h2⟩
    by_cases e : a.ion = j
    · rw [own_cons_same _ e, own_cons_same _ e]; exact Left.keep a (h1 j)
    · rw [own_cons_other _ e, own_cons_other _ e]; exact h1 j
  | drop a hk hl ih =>
    obtain ⟨f, h1, h2⟩ := ih fun b hb => hv b (by simp [hb])
    have ha := hv a (by simp)
    obtain ⟨i, hi⟩ := Int.eq_ofNat_of_zero_le ha.1
    refine ⟨fun j => if j = a.ion then f j + 1 else f j, fun j => ?_, ?_⟩
    · dsimp only
      by_cases e : a.ion = j
      · rw [own_cons_same _ e, if_pos e.symm]; exact Left.drop a hk (h1 j)
      · rw [own_cons_other _ e, if_neg (fun x => e x.symm)]; exact h1 j
    · rw [← h2]
      have := sumTo_bump (f := fun j => if j = a.ion then f j + 1 else f j) (g := f) (d := 1) K i (by omega) (by rw [if_pos hi.symm]; omega) (fun q _ hne => by rw [if_neg (by omega)])
      omega

theorem cnt_left (L : Int) {l m : List HAct} {k : Nat} (hl : Left l m k) (hw : Warm m) (K : Nat) (hv : ∀ a ∈ m, 0 ≤ a.ion ∧ a.ion < K) :
    cnt L cold l ≤ cnt L cold m + k ∧ cnt L cold m ≤ cnt L cold l := by
  have hv' : ∀ a ∈ l, 0 ≤ a.ion ∧ a.ion < K := fun a ha => hv a (hl.mem a ha)
  rw [cnt_eq_sum L K l cold hv', cnt_eq_sum L K m cold hv]
  obtain ⟨f, h1, h2⟩ := hl.owns K hv
  refine ⟨?_, ?_⟩
  · rw [← h2, ← sumTo_add]
    exact sumTo_le K fun i _ => (one_left L (h1 i) (hw.own i)).1 0 0 (Int.le_refl _) (Int.le_refl _) (Int.le_refl _)
  · exact sumTo_le K fun i _ => (one_left L (h1 i) (hw.own i)).2.2.1 0 0 (Int.le_refl _) (Int.le_refl _) (Int.le_refl _)

/-! ### The plan with coolings put in -/

theorem putIn_left (L : Int) (l : List HAct) : ∀ h, Left l (putIn L h l) (cnt L h l) := by
  induction l with
  | nil => intro h; exact Left.nil
  | cons a l ih =>
    intro h
    simp only [putIn, cnt]
    split
    · rw [Nat.add_comm]; exact Left.drop _ rfl (Left.keep a (ih _))
    · exact Left.keep a (ih _)

theorem putIn_mem (L : Int) (l : List HAct) : ∀ h, ∀ a ∈ putIn L h l, a ∈ l ∨ ∃ b ∈ l, a = cool b.ion := by
  induction l with
  | nil => intro h a ha; exact .inl ha
  | cons b l ih =>
    intro h a ha
    simp only [putIn] at ha
    split at ha
    · simp only [List.mem_cons] at ha
      rcases ha with e | e | e
      · exact .inr ⟨b, by simp, e⟩
      · exact .inl (by simp [e])
      · rcases ih _ a e with h1 | ⟨c, hc, h2⟩
        · exact .inl (by simp [h1])
        · exact .inr ⟨c, by simp [hc], h2⟩
    · simp only [List.mem_cons] at ha
      rcases ha with e | e
      · exact .inl (by simp [e])
      · rcases ih _ a e with h1 | ⟨c, hc, h2⟩
        · exact .inl (by simp [h1])
        · exact .inr ⟨c, by simp [hc], h2⟩

theorem isAct_cool {n : Int} {b : HAct} (h : isAct n b = true) : isAct n (cool b.ion) = true := by
  simp only [isAct, decide_eq_true_eq] at h
  unfold isAct cool
  refine decide_eq_true ⟨(by decide : (0 : Int) ≤ 2), (by decide : (2 : Int) ≤ 2), ?_, ?_, (by decide : (0 : Int) ≤ 0), (by decide : (0 : Int) ≤ 100), .inr rfl⟩
  · show 0 ≤ b.ion
    omega
  · show b.ion ≤ n - 1
    omega
theorem areActs_iff {n : Int} {l : List HAct} : areActs n l = true ↔ ∀ a ∈ l, isAct n a = true := by simp [areActs]
theorem areActs_insert {n : Int} {l : List HAct} (h : areActs n l = true) (L : Int) (g : Int → Int) : areActs n (putIn L g l) = true := by
  rw [areActs_iff] at *
  intro a ha
  rcases putIn_mem L l g a ha with h1 | ⟨b, hb, rfl⟩
  · exact h a h1
  · exact isAct_cool (h b hb)

/-- No gate of the plan with coolings put in is too hot, where no limit is below 0. -/
theorem hot_insert {L : Int} (hL : 0 ≤ L) (l : List HAct) : ∀ h i, hotFrom L h i (putIn L h l) = [] := by
  induction l with
  | nil => intro h i; rfl
  | cons a l ih =>
    intro h i
    simp only [putIn]
    split
    · rename_i c
      simp only [hotFrom]
      rw [if_neg (by simp [cool]), if_neg (by simp [put, cool, step]; omega)]
      exact ih _ _
    · rename_i c
      simp only [hotFrom]
      rw [if_neg c]
      exact ih _ _

/-- Where no gate is too hot no cooling is put in. -/
theorem cnt_of_not_hot {L : Int} (l : List HAct) : ∀ h i, hotFrom L h i l = [] → cnt L h l = 0 := by
  induction l with
  | nil => intro h i _; rfl
  | cons a l ih =>
    intro h i e
    simp only [hotFrom] at e
    simp only [cnt]
    split at e
    · simp at e
    · rename_i c
      rw [if_neg c]
      exact ih _ _ e
theorem not_hot_of_cnt {L : Int} (l : List HAct) : ∀ h i, cnt L h l = 0 → hotFrom L h i l = [] := by
  induction l with
  | nil => intro h i _; rfl
  | cons a l ih =>
    intro h i e
    simp only [cnt] at e
    simp only [hotFrom]
    split at e
    · omega
    · rename_i c
      rw [if_neg c]
      exact ih _ _ e
theorem cnt_insert {L : Int} (hL : 0 ≤ L) (l : List HAct) (h : Int → Int) : cnt L h (putIn L h l) = 0 := cnt_of_not_hot _ h 0 (hot_insert hL l h 0)

/-- The first gate that is too hot, cooled: one cooling fewer. -/
theorem cnt_first {L : Int} (hL : 0 ≤ L) (l : List HAct) : ∀ (h : Int → Int) (i : Nat) (x : Int) (xs : List Int), hotFrom L h i l = x :: xs →
    ∃ k : Nat, x = ((i + k : Nat) : Int) ∧ ∃ a, l[k]? = some a ∧ cnt L h l = 1 + cnt L h (l.take k ++ cool a.ion :: l.drop k) := by
  induction l with
  | nil => intro h i x xs e; simp [hotFrom] at e
  | cons b l ih =>
    intro h i x xs e
    simp only [hotFrom] at e
    split at e
    · rename_i c
      simp only [List.cons.injEq] at e
      refine ⟨0, by rw [← e.1]; rfl, b, rfl, ?_⟩
      simp only [List.take_zero, List.nil_append, List.drop_zero, cnt]
      rw [if_pos c, if_neg (by simp [cool]), if_neg (by simp [put, cool, step]; omega)]
    · rename_i c
      obtain ⟨k, hx, a, ha, hc⟩ := ih _ _ _ _ e
      refine ⟨k + 1, by rw [hx]; congr 1; omega, a, by simpa using ha, ?_⟩
      simp only [List.take_succ_cons, List.cons_append, List.drop_succ_cons, cnt]
      rw [if_neg c, if_neg c]
      exact hc

/-- Acts whose heats are from 0 to 100. -/
def Mild (l : List HAct) : Prop := ∀ a ∈ l, 0 ≤ a.heat ∧ a.heat ≤ 100
theorem Mild.warm {l : List HAct} (h : Mild l) : Warm l := fun a ha => (h a ha).1
theorem mild_of {n : Int} {l : List HAct} (h : areActs n l = true) : Mild l := fun a ha => by
  have := areActs_iff.1 h a ha
  simp only [isAct, decide_eq_true_eq] at this
  omega
theorem Mild.take {l : List HAct} (h : Mild l) (k : Nat) : Mild (l.take k) := fun a ha => h a (List.mem_of_mem_take ha)
theorem put_bd {h : Int → Int} {a : HAct} {B : Int} (hh : ∀ j, 0 ≤ h j ∧ h j ≤ B) (ha : 0 ≤ a.heat ∧ a.heat ≤ 100) : ∀ j, 0 ≤ put h a j ∧ put h a j ≤ B + 100 := by
  intro j
  have := hh j
  unfold put step
  split
  · split <;> omega
  · omega
theorem heats_bd (l : List HAct) (hl : Mild l) : ∀ (h : Int → Int) (B : Int), (∀ j, 0 ≤ h j ∧ h j ≤ B) → ∀ j, 0 ≤ heats h l j ∧ heats h l j ≤ B + 100 * l.length := by
  induction l with
  | nil => intro h B hh j; have := hh j; simp only [heats_nil, List.length_nil]; omega
  | cons a l ih =>
    intro h B hh j
    have := ih (fun b hb => hl b (by simp [hb])) (put h a) (B + 100) (put_bd hh (hl a (by simp))) j
    rw [heats_cons, List.length_cons]
    omega
theorem heats_cold_bd (l : List HAct) (hl : Mild l) (j : Int) : 0 ≤ heats cold l j ∧ heats cold l j ≤ 100 * l.length := by
  have := heats_bd l hl cold 0 (fun _ => ⟨Int.le_refl _, Int.le_refl _⟩) j
  omega
theorem heats_take (h : Int → Int) (l : List HAct) (k : Nat) (hk : k < l.length) : heats h (l.take (k + 1)) = put (heats h (l.take k)) l[k] := by
  rw [List.take_add_one, List.getElem?_eq_getElem hk, Option.toList, heats_snoc]
theorem before_eq (l : List HAct) (i : Nat) (hi : i < l.length) : before l i = heats cold (l.take i) l[i].ion := by
  rw [before, List.getElem?_eq_getElem hi]; rfl
theorem put_if (h : Int → Int) (a : HAct) (j : Int) : put h a j = if (a.ion == j) = true then (if (a.kind == 2) = true then 0 else h j + a.heat) else h j := by
  unfold put step
  by_cases e : a.ion = j
  · subst e; simp
  · have e' : ¬ j = a.ion := fun x => e x.symm
    simp [e, e']
end Heat
end Go.Proofs.Ytkeolmipdoeljaa
