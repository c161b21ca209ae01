/-
  WALK: the reference's 'every'.
-/
import Derived.Test.YtejjogpgolgdgaaW10
namespace Go.Proofs.Ytejjogpgolgdgaa
open Go.RowKit Pulse

/-- The blocks that a growing row and what lies below lo take. -/
def Taken (lo : Nat) (v : Value) (g : Nat) : Prop := g < lo ∨ v.ownBlock = some g
theorem tab_step {wr w6 w8 : World} {base n lo : Nat} {v v6 v8 : Value} {vs : List Value} {ps : List (List Int)} {p : List Int} (hlo : lo ≤ wr.heap.size) (hown : wr.ownsRow base 23 1 v n vs) (ht : Tab wr wr.heap.size (Taken lo v) vs ps) (hb : Below wr.heap.size wr w6)
    (hown6 : w6.ownsRow wr.heap.size 3 1 v6 p.length (ints p)) (hg8 : w6.grownBy w8 v.ownBlock) (hx : v8.ownBlock = v.ownBlock ∨ ∃ g, v8.ownBlock = some g ∧ w6.heap.size ≤ g) :
    Tab w8 w8.heap.size (Taken lo v8) (vs ++ [v6]) (ps ++ [p]) := by
  have hs := hb.size
  have h1 : Tab w6 w6.heap.size (Taken lo v) vs ps := (ht.below hb (Nat.le_refl _)).more hs
  have h2 : RowAt w6 w6.heap.size (Taken lo v) v6 p := RowAt.of_own hown6 (fun g hg => by
    rcases hg with hg | hg
    · omega
    · exact (hown.lt g hg).2)
  have h3 := (h1.snoc h2).grown hg8 (fun g hg => .inr hg) (Nat.le_refl _)
  exact (h3.at (fun g hg => by
    rcases hg with hg | hg
    · exact .inl (.inl hg)
    · rcases hx with h | ⟨g', h, hg'⟩
      · rw [h] at hg; exact .inl (.inr hg)
      · rw [h] at hg; injection hg with hg; exact .inr (by omega))).more hg8.size

/-- A pulse with each force behind it. -/
def ext (F : Nat) (p : List Int) (d : Nat) : List (List Int) := ((digs F).take d).map fun f => p ++ [f]
def part (F : Nat) (ps : List (List Int)) (j : Nat) : List (List Int) := (ps.take j).flatMap fun p => (digs F).map fun f => p ++ [f]
theorem ext_succ {F : Nat} {p : List Int} {d : Nat} (h : d < 2 * F + 1) : ext F p (d + 1) = ext F p d ++ [p ++ [(d : Int) - F]] := by
  have h' : d < (digs F).length := by rw [digs_len]; exact h
  unfold ext
  rw [take_snoc _ d h', digs_get, List.map_append]; rfl
theorem ext_all {F : Nat} {p : List Int} : ext F p (2 * F + 1) = (digs F).map fun f => p ++ [f] := by
  unfold ext
  rw [List.take_of_length_le (by rw [digs_len]; exact Nat.le_refl _)]
theorem part_succ {F : Nat} {ps : List (List Int)} {j : Nat} (h : j < ps.length) : part F ps (j + 1) = part F ps j ++ ext F ps[j] (2 * F + 1) := by
  unfold part
  rw [take_snoc _ j h, List.flatMap_append, ext_all]; simp
theorem part_len {F : Nat} {ps : List (List Int)} {j : Nat} (h : j ≤ ps.length) : (part F ps j).length = j * (2 * F + 1) := by
  induction j with
  | zero => simp [part]
  | succ j ih => rw [part_succ (by omega), List.length_append, ih (by omega), ext_all, List.length_map, digs_len, Nat.add_mul]; omega
theorem part_all {F : Nat} {q : Nat} : part F (allP F q) (allP F q).length = allP F (q + 1) := by
  unfold part
  rw [List.take_length]; rfl
set_option maxRecDepth 100000 in
set_option maxHeartbeats 4000000 in
theorem revery (A : Option Addr) (k c : Nat) (g : List (List Int)) (w : World) (hpos : 0 < g.length) (hwd : wid g ≤ 3) (B : Nat) (hB : B ≤ w.heap.size) (hr : TRd w B A k g) :
    Calls Try.prog 70 #[.slice A k c] w fun e w' => ∃ A c vs, e = .returned (.slice A (allV (wid g)).length c) ∧ Rd w' w'.heap.size 1 A (allV (wid g)).length vs ∧ (∀ b off f, A = some ⟨b, off, f⟩ → w.heap.size ≤ b) ∧ Tab w' w'.heap.size (fun g => g < w.heap.size) vs (allV (wid g)) ∧ Below w.heap.size w w' := by
  obtain rfl := hr.len
  obtain ⟨b0, off0, Ag, cg, rfl, hb0, hc0, _, _, _⟩ := hr.row hpos
  have HW := Lib.hid (wid_zero hpos)
  rw [Nat.add_zero, ← HW.out] at hc0
  have zg : (0 : Int) < (g.length : Int) := by omega
  obtain ⟨n, hn0⟩ : ∃ n, n = wid g := ⟨_, rfl⟩
  rw [← hn0] at hc0 hwd ⊢
  have hn : n ≤ 3 := hwd
  have HC0G := Lib.hid hc0
  have hb0w : b0 < w.heap.size := by omega
  clear hn0 hwd hc0 hr
  have hn0 := blk_new w 23 #[.slice none 0 0]
  have HR0 := Lib.hid (show Rd (w.alloc (.cells #[.slice none 0 0] 23)) (w.alloc (.cells #[.slice none 0 0] 23)).heap.size 1 (some ⟨w.heap.size, 0, none⟩) 1 [.slice none 0 0] by simpa using rd_lit (sz := 1) (n := 1) hn0 rfl)
  have HB0 := Lib.hid ((Below.refl w.heap.size w).alloc (Nat.le_refl _) (.cells #[.slice none 0 0] 23))
  have HT0 := Lib.hid (show Tab (w.alloc (.cells #[.slice none 0 0] 23)) (w.alloc (.cells #[.slice none 0 0] 23)).heap.size (fun g => g < w.heap.size) [.slice none 0 0] (allP 3 0) from Tab.nil.snoc RowAt.nil)
  clear hn0
  go_enter Try.func70, Try.ntmps70
  go_wp2
  go_loopw [3, 4, 5, 6, 7] (fun v i _ _ _ wr => ∃ (q N : Nat) (A : Option Addr) (c : Nat) (vs : List Value) (ps : List (List Int)), v = .slice A N c ∧ i = .int .i64 q ∧ q ≤ n ∧ Hid (ps = allP 3 q) ∧ N ≤ 343 ∧ Hid (N = ps.length) ∧ Rd wr wr.heap.size 1 A N vs ∧ Hid (∀ b off f, A = some ⟨b, off, f⟩ → w.heap.size ≤ b) ∧ Tab wr wr.heap.size (fun g => g < w.heap.size) vs ps ∧ Below w.heap.size w wr) (fun _ i _ _ _ _ => n - (intOf i).toNat)
  case atStart => exact ⟨0, 1, _, _, _, _, rfl, rfl, Nat.zero_le _, rfl, by omega, rfl, HR0.out, (fun b off f h => by injection h with h; injection h with h; omega), HT0.out, HB0.out⟩
  case round =>
    clear HR0 HT0 HB0
    obtain ⟨q, N, A, c, vs, ps, rfl, rfl, hq, HPS, hN, HN, hro, HLO, hto, hbo⟩ := hrel
    have hcg := (hbo.cell (p := ⟨b0, off0, none⟩) hb0w).trans HC0G.out
    by_cases hlt : q < n
    · have HRO := Lib.hid hro
      have HTO := Lib.hid hto
      have HBO := Lib.hid hbo
      have hso := hbo.size
      clear hro hto hbo
      obtain ⟨wo, hwo⟩ : ∃ wo, wo = wr := ⟨_, rfl⟩
      subst hwo
      go_wp2
      go_loopw [5, 6, 7] (fun v k _ wm => ∃ (j m : Nat) (vs' : List Value), k = .int .i64 j ∧ j ≤ N ∧ m ≤ 100000 ∧ Hid (m = (part 3 ps j).length) ∧ wm.ownsRow wo.heap.size 23 1 v m vs' ∧ Tab wm wm.heap.size (Taken w.heap.size v) vs' (part 3 ps j) ∧ Below wo.heap.size wo wm) (fun _ k _ _ => N - (intOf k).toNat)
      case atStart => exact ⟨0, 0, [], rfl, Nat.zero_le _, by omega, rfl, World.ownsRow_nil .., Tab.nil, Below.refl _ _⟩
      case round =>
        obtain ⟨j, m, vs', rfl, hj, hm, HM, hown, ht, hb⟩ := hrel
        have hsm := hb.size
        obtain ⟨wm, hwm⟩ : ∃ wm, wm = wr := ⟨_, rfl⟩
        subst hwm
        by_cases hjN : j < N
        · have hjp : j < ps.length := by have := HN.out; omega
          obtain ⟨hdr, hhd, hrow⟩ := HTO.out.row hjp
          obtain ⟨Ap, cp, rfl, _, _, _⟩ := hrow.read
          have HROW := Lib.hid hrow
          obtain ⟨b, off, rfl, hbb, hc0⟩ := Rd.head HRO.out hhd
          have hpl : ps[j].length ≤ 3 := by
            have h1 := HPS.out
            have h2 : ps[j] ∈ allP 3 q := by rw [← h1]; exact List.getElem_mem hjp
            rw [(mem_allP.1 h2).1]; omega
          have HPA := Lib.hid (show part 3 ps (j + 1) = part 3 ps j ++ ext 3 ps[j] 7 from part_succ (F := 3) hjp)
          have hpj : (part 3 ps j).length = j * (7) := part_len (Nat.le_of_lt hjp)
          have hpj2 : j * (7) ≤ 343 * 7 := Nat.mul_le_mul (by omega) (by omega)
          have HPL := Lib.hid (show (part 3 ps j).length ≤ 2401 by omega)
          obtain ⟨p, hp⟩ : ∃ p, p = ps[j] := ⟨_, rfl⟩
          rw [← hp] at HROW HPA hpl
          have hlp : ps[j].length = p.length := by rw [hp]
          rw [hlp] at hc0
          have HC0 := Lib.hid hc0
          have HE0 := Lib.hid (show part 3 ps j ++ ext 3 p 0 = part 3 ps j by simp [ext])
          have OWN := Lib.hid (And.intro hown (And.intro ht hb))
          clear hp hhd hrow hpj hpj2 hlp hc0 hown ht hb
          go_wp2
          go_loopw [5, 7] (fun v x wi => ∃ (d m2 : Nat) (vs2 : List Value), x = .int .i64 ((d : Int) - 3) ∧ d ≤ 7 ∧ m2 ≤ 100000 ∧ Hid (m2 = (part 3 ps j ++ ext 3 p d).length) ∧ wi.ownsRow wo.heap.size 23 1 v m2 vs2 ∧ Tab wi wi.heap.size (Taken w.heap.size v) vs2 (part 3 ps j ++ ext 3 p d) ∧ Below wo.heap.size wo wi) (fun _ x _ => 7 - (intOf x + 3).toNat)
          case atStart => exact ⟨0, m, vs', by simp, Nat.zero_le _, hm, by rw [HE0.out]; exact HM.out, OWN.out.1, by rw [HE0.out]; exact OWN.out.2.1, OWN.out.2.2⟩
          case round =>
            clear OWN
            obtain ⟨d, m2, vs2, rfl, hd, hm2, HM2, hown, ht, hb⟩ := hrel
            have hsi := hb.size
            obtain ⟨wi, hwi⟩ : ∃ wi, wi = wr := ⟨_, rfl⟩
            subst hwi
            by_cases hdF : d < 7
            · have HES := Lib.hid (show ext 3 p (d + 1) = ext 3 p d ++ [p ++ [(d : Int) - 3]] from ext_succ (F := 3) (p := p) hdF)
              have HT := Lib.hid ht
              have c0 := (hb.cell (p := ⟨b, off + j, none⟩) hbb).trans HC0.out
              have c1 := (World.cell?_alloc_lt wi (.cells #[] 3) ⟨b, off + j, none⟩ (show b < wi.heap.size by omega)).trans c0
              obtain ⟨f, hf⟩ : ∃ f, f = (d : Int) - 3 := ⟨_, rfl⟩
              have f1 : -3 ≤ f := by omega
              have f2 : f ≤ 3 := by omega
              have HF1 := Lib.hid hf
              rw [← hf]
              have HOW := Lib.hid hown
              have HBI := Lib.hid hb
              have HRR := Lib.hid (show Rd (wi.alloc (.cells #[] 3)) wi.heap.size 1 Ap p.length (ints p) by
                obtain ⟨A', c', e, _, _, h3⟩ := HROW.out.read
                injection e with e1 e2 e3
                subst e1
                exact ((h3.below hb).more hsi).alloc (Nat.le_refl _) _)
              have HO := Lib.hid (show (wi.alloc (.cells #[] 3)).ownsRow wi.heap.size 3 1 (.slice (some ⟨wi.heap.size, 0, none⟩) 0 0) 0 [] from own_empty (blk_new wi 3 #[]) (Nat.le_refl _))
              have HB1 := Lib.hid ((Below.refl wi.heap.size wi).alloc (Nat.le_refl _) (.cells #[] 3))
              clear hf hown ht hb hd
              go_wp2_with (at_builtin; first
                | ((refine app1x rfl (.tmp 27) (.tmp 37) 22 rfl 23 _ 1 24 E22 wo.heap.size _ _ _ _ rfl hown7 _ rfl ?_ ?_ ?_ ?_ ?_ ?_); rfl; rfl; rfl; omega; omega; intro v8 w8 hown8 hg8 hx8)
                | ((refine app1 rfl (.tmp 33) (.tmp 35) 23 rfl 3 _ 1 8 E23 wi.heap.size _ _ _ _ rfl hown5 _ rfl ?_ ?_ ?_ ?_ ?_ ?_); rfl; rfl; rfl; omega; omega; intro v6 w6 hown6 hg6; obtain ⟨A6, c6, rfl, _, _⟩ := own_cap hown6; have hb6 := below_own (below_own HB1.out (by simp) HO.out (Nat.le_refl _) hg5) b5 hown5 (Nat.le_refl _) hg6; have b6 := hb6.size; have hown7 := own_below HOW.out hb6)
                | ((refine appN rfl (.tmp 28) (.tmp 32) 23 rfl 3 _ 1 8 E23 wi.heap.size _ _ _ rfl HO.out wi.heap.size Ap p.length cp (ints p) rfl HRR.out (ints_one _) (by omega) (by simp) ?_); intro v5 w5 hown5 hg5; rw [Nat.zero_add, List.nil_append] at hown5; have b5 := (below_own HB1.out (by simp) HO.out (Nat.le_refl _) hg5).size))
              have hown6' : w6.ownsRow wi.heap.size 3 1 (.slice A6 (p.length + 1) c6) (p ++ [f]).length (ints (p ++ [f])) := by
                rw [List.length_append, ints_snoc]; exact hown6
              have HT2 := Lib.hid (tab_step (by omega) HOW.out HT.out hb6 hown6' hg8 hx8)
              have HB2 := Lib.hid (below_own (HBI.out.trans (hb6.mono hsi)) (by omega) hown7 (Nat.le_refl _) hg8)
              clear hown6' hown6 hown5 hg5 hg6 hg8 hx8
              go_roundw
              case rel =>
                refine ⟨d + 1, m2 + 1, _, by have := HF1.out; go_num, by omega, ?_, ?_, hown8, ?_, HB2.out⟩
                · have h1 := HM2.out
                  have h2 := HPL.out
                  rw [List.length_append] at h1
                  have h3 : (ext 3 p d).length ≤ 7 := by unfold ext; rw [List.length_map, List.length_take, digs_len]; omega
                  omega
                · rw [HES.out, ← List.append_assoc, List.length_append, ← HM2.out]; rfl
                · rw [HES.out, ← List.append_assoc, ← HF1.out]; exact HT2.out
              case measure => have := HF1.out; simp [intOf]; omega
            · obtain rfl : d = 7 := by omega
              have HFIN := Lib.hid (And.intro hown (And.intro ht hb))
              clear hown ht hb
              go_wp2
              go_roundw
              case rel =>
                refine ⟨j + 1, m2, vs2, by go_num, by omega, hm2, ?_, HFIN.out.1, ?_, HFIN.out.2.2⟩
                · rw [HPA.out]; exact HM2.out
                · rw [HPA.out]; exact HFIN.out.2.1
              case measure => simp [intOf]; omega
        · obtain rfl : j = N := by omega
          have HEQ := Lib.hid (show part 3 ps j = allP 3 (q + 1) by
            have h1 := HN.out
            have h2 := HPS.out
            rw [h1, h2]; exact part_all)
          obtain ⟨A2, c2, rfl, _, _⟩ := own_cap hown
          have HR2 := Lib.hid (Rd.of_own hown)
          have HT2 := Lib.hid (ht.at (X' := fun g => g < w.heap.size) (fun g hg => .inl (.inl hg)))
          have HLO2 := Lib.hid (show ∀ b off f, A2 = some ⟨b, off, f⟩ → w.heap.size ≤ b from fun b off f h => by subst h; have := (hown.lt b rfl).1; omega)
          have HB2 := Lib.hid (HBO.out.trans (hb.mono hso))
          have HM2 := Lib.hid (show m ≤ 343 by
            have h1 := HM.out
            rw [HEQ.out] at h1
            have : (allP 3 (q + 1)).length ≤ 343 := allV_len (q + 1) (by omega)
            omega)
          clear hown ht hb
          go_wp2
          go_roundw
          case rel =>
            refine ⟨q + 1, m, A2, c2, vs', allP 3 (q + 1), rfl, by go_num, by omega, rfl, HM2.out, ?_, HR2.out, HLO2.out, ?_, HB2.out⟩
            · have h1 := HM.out
              rw [HEQ.out] at h1; exact h1
            · rw [← HEQ.out]; exact HT2.out
          case measure => simp [intOf]; omega
    · obtain rfl : q = n := by omega
      have HFIN := Lib.hid (And.intro hro (And.intro hto hbo))
      clear hro hto hbo
      go_wp2
      go_ret
      have h1 := HPS.out
      have h2 := HN.out
      rw [h1] at h2
      obtain ⟨x1, x2, x3⟩ := HFIN.out
      rw [h1] at x2
      exact ⟨A, c, vs, by rw [h2]; rfl, by rw [← h2]; exact x1, HLO.out, x2, x3⟩
end Go.Proofs.Ytejjogpgolgdgaa
