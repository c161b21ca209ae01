/-
  MERGED: W36, W39.
-/
import Derived.Test.YtnoocdannfeidaaK21
import Derived.Test.YtnoocdannfeidaaK18
import Derived.Test.YtnoocdannfeidaaK11
/-
  WALK: the reference's 'all'.
-/
namespace Go.Proofs.Ytnoocdannfeidaa
open Go.RowKit Pulse

theorem E71 : EOk Try.prog 71 22 (.slice none 0 0) 1 24 :=
  ⟨Try.underlying71, by
    obtain ⟨i, h1, h2, h3, h4⟩ := info_parts (show (Try.prog.info? 22).map (fun i => (i.zero, i.size, i.bytes)) = some (some (.slice none 0 0), 1, 24) by kernel_rfl)
    exact ⟨i, h1, h2, h3, h4⟩, rfl, by decide, by decide⟩

/-- The blocks that a growing row and what lies below lo take. -/
def Taken (lo : Nat) (v : Value) (g : Nat) : Prop := g < lo ∨ v.ownBlock = some g
theorem tab_step {wr w6 w8 : World} {base n lo : Nat} {v v6 v8 : Value} {vs : List Value} {ps : List (List Int)} {p : List Int} (hlo : lo ≤ wr.heap.size) (hown : wr.ownsRow base 22 1 v n vs) (ht : Tab wr wr.heap.size (Taken lo v) vs ps) (hb : Below wr.heap.size wr w6)
    (hown6 : w6.ownsRow wr.heap.size 3 1 v6 p.length (ints p)) (hg8 : w6.grownBy w8 v.ownBlock) (hx : v8.ownBlock = v.ownBlock ∨ ∃ g, v8.ownBlock = some g ∧ w6.heap.size ≤ g) :
    Tab w8 w8.heap.size (Taken lo v8) (vs ++ [v6]) (ps ++ [p]) := by
  have hs := hb.size
  have h1 : Tab w6 w6.heap.size (Taken lo v) vs ps := (ht.below hb (Nat.le_refl _)).more hs
  have h2 : RowAt w6 w6.heap.size (Taken lo v) v6 p := RowAt.of_own hown6 (fun g hg => by
    rcases hg with hg | hg
    · omega
    · exact (hown.lt g hg).2)
  have h3 := (h1.snoc h2).grown hg8 (fun g hg => .inr hg) (Nat.le_refl _)
  exact (h3.at (fun g hg => by
    rcases hg with hg | hg
    · exact .inl (.inl hg)
    · rcases hx with h | ⟨g', h, hg'⟩
      · rw [h] at hg; exact .inl (.inr hg)
      · rw [h] at hg; injection hg with hg; exact .inr (by omega))).more hg8.size

/-- A pulse with each force behind it. -/
def ext (F : Nat) (p : List Int) (d : Nat) : List (List Int) := ((digs F).take d).map fun f => p ++ [f]
def part (F : Nat) (ps : List (List Int)) (j : Nat) : List (List Int) := (ps.take j).flatMap fun p => (digs F).map fun f => p ++ [f]
theorem ext_succ {F : Nat} {p : List Int} {d : Nat} (h : d < 2 * F + 1) : ext F p (d + 1) = ext F p d ++ [p ++ [(d : Int) - F]] := by
  have h' : d < (digs F).length := by rw [digs_len]; exact h
  unfold ext
  rw [take_snoc _ d h', digs_get, List.map_append]; rfl
theorem ext_all {F : Nat} {p : List Int} : ext F p (2 * F + 1) = (digs F).map fun f => p ++ [f] := by
  unfold ext
  rw [List.take_of_length_le (by rw [digs_len]; exact Nat.le_refl _)]
theorem part_succ {F : Nat} {ps : List (List Int)} {j : Nat} (h : j < ps.length) : part F ps (j + 1) = part F ps j ++ ext F ps[j] (2 * F + 1) := by
  unfold part
  rw [take_snoc _ j h, List.flatMap_append, ext_all]; simp
theorem part_len {F : Nat} {ps : List (List Int)} {j : Nat} (h : j ≤ ps.length) : (part F ps j).length = j * (2 * F + 1) := by
  induction j with
  | zero => simp [part]
  | succ j ih => rw [part_succ (by omega), List.length_append, ih (by omega), ext_all, List.length_map, digs_len, Nat.add_mul]; omega
theorem part_all {F : Nat} {q : Nat} : part F (allP F q) (allP F q).length = allP F (q + 1) := by
  unfold part
  rw [List.take_length]; rfl
theorem allP_bd {F q : Nat} (hF : F ≤ 2) (hq : q ≤ 6) : (allP F q).length ≤ 15625 := by
  rw [allP_len]
  calc (2 * F + 1) ^ q ≤ 5 ^ q := Nat.pow_le_pow_left (by omega) q
    _ ≤ 5 ^ 6 := Nat.pow_le_pow_right (by omega) hq
    _ = 15625 := by decide

set_option maxRecDepth 100000 in
set_option maxHeartbeats 4000000 in
theorem rAll (n F : Nat) (hn : n ≤ 6) (hF : F ≤ 2) (w : World) :
    Calls Try.prog 69 #[.int .i64 n, .int .i64 F] w fun e w' => ∃ A c vs, e = .returned (.slice A (allP F n).length c) ∧ Rd w' w'.heap.size 1 A (allP F n).length vs ∧ (∀ b off f, A = some ⟨b, off, f⟩ → w.heap.size ≤ b) ∧ Tab w' w'.heap.size (fun g => g < w.heap.size) vs (allP F n) ∧ Below w.heap.size w w' := by
  have hn0 := blk_new w 22 #[.slice none 0 0]
  have HR0 := Lib.hid (show Rd (w.alloc (.cells #[.slice none 0 0] 22)) (w.alloc (.cells #[.slice none 0 0] 22)).heap.size 1 (some ⟨w.heap.size, 0, none⟩) 1 [.slice none 0 0] by simpa using rd_lit (sz := 1) (n := 1) hn0 rfl)
  have HB0 := Lib.hid ((Below.refl w.heap.size w).alloc (Nat.le_refl _) (.cells #[.slice none 0 0] 22))
  have HT0 := Lib.hid (show Tab (w.alloc (.cells #[.slice none 0 0] 22)) (w.alloc (.cells #[.slice none 0 0] 22)).heap.size (fun g => g < w.heap.size) [.slice none 0 0] (allP F 0) from Tab.nil.snoc RowAt.nil)
  clear hn0
  go_enter Try.func69, Try.ntmps69
  go_wp2
  go_loopw [5, 6, 7, 8, 9] (fun v i _ _ _ wr => ∃ (q N : Nat) (A : Option Addr) (c : Nat) (vs : List Value) (ps : List (List Int)), v = .slice A N c ∧ i = .int .i64 q ∧ q ≤ n ∧ Hid (ps = allP F q) ∧ N ≤ 15625 ∧ Hid (N = ps.length) ∧ Rd wr wr.heap.size 1 A N vs ∧ Hid (∀ b off f, A = some ⟨b, off, f⟩ → w.heap.size ≤ b) ∧ Tab wr wr.heap.size (fun g => g < w.heap.size) vs ps ∧ Below w.heap.size w wr) (fun _ i _ _ _ _ => n - (intOf i).toNat)
  case atStart => exact ⟨0, 1, _, _, _, _, rfl, rfl, Nat.zero_le _, rfl, by omega, rfl, HR0.out, (fun b off f h => by injection h with h; injection h with h; omega), HT0.out, HB0.out⟩
  case round =>
    clear HR0 HT0 HB0
    obtain ⟨q, N, A, c, vs, ps, rfl, rfl, hq, HPS, hN, HN, hro, HLO, hto, hbo⟩ := hrel
    by_cases hlt : q < n
    · have HRO := Lib.hid hro
      have HTO := Lib.hid hto
      have HBO := Lib.hid hbo
      have hso := hbo.size
      clear hro hto hbo
      obtain ⟨wo, hwo⟩ : ∃ wo, wo = wr := ⟨_, rfl⟩
      subst hwo
      go_wp2
      go_loopw [7, 8, 9] (fun v k _ wm => ∃ (j m : Nat) (vs' : List Value), k = .int .i64 j ∧ j ≤ N ∧ m ≤ 100000 ∧ Hid (m = (part F ps j).length) ∧ wm.ownsRow wo.heap.size 22 1 v m vs' ∧ Tab wm wm.heap.size (Taken w.heap.size v) vs' (part F ps j) ∧ Below wo.heap.size wo wm) (fun _ k _ _ => N - (intOf k).toNat)
      case atStart => exact ⟨0, 0, [], rfl, Nat.zero_le _, by omega, rfl, World.ownsRow_nil .., Tab.nil, Below.refl _ _⟩
      case round =>
        obtain ⟨j, m, vs', rfl, hj, hm, HM, hown, ht, hb⟩ := hrel
        have hsm := hb.size
        obtain ⟨wm, hwm⟩ : ∃ wm, wm = wr := ⟨_, rfl⟩
        subst hwm
        by_cases hjN : j < N
        · have hjp : j < ps.length := by have := HN.out; omega
          obtain ⟨hdr, hhd, hrow⟩ := HTO.out.row hjp
          obtain ⟨Ap, cp, rfl, _, _, _⟩ := hrow.read
          have HROW := Lib.hid hrow
          obtain ⟨b, off, rfl, hbb, hc0⟩ := Rd.head HRO.out hhd
          have hpl : ps[j].length ≤ 6 := by
            have h1 := HPS.out
            have h2 : ps[j] ∈ allP F q := by rw [← h1]; exact List.getElem_mem hjp
            rw [(mem_allP.1 h2).1]; omega
          have HPA := Lib.hid (part_succ (F := F) hjp)
          have hpj : (part F ps j).length = j * (2 * F + 1) := part_len (Nat.le_of_lt hjp)
          have hpj2 : j * (2 * F + 1) ≤ 15625 * 5 := Nat.mul_le_mul (by omega) (by omega)
          have HPL := Lib.hid (show (part F ps j).length ≤ 78125 by omega)
          obtain ⟨p, hp⟩ : ∃ p, p = ps[j] := ⟨_, rfl⟩
          rw [← hp] at HROW HPA hpl
          have hlp : ps[j].length = p.length := by rw [hp]
          rw [hlp] at hc0
          have HC0 := Lib.hid hc0
          have HE0 := Lib.hid (show part F ps j ++ ext F p 0 = part F ps j by simp [ext])
          have OWN := Lib.hid (And.intro hown (And.intro ht hb))
          clear hp hhd hrow hpj hpj2 hlp hc0 hown ht hb
          go_wp2
          go_loopw [7, 9] (fun v x wi => ∃ (d m2 : Nat) (vs2 : List Value), x = .int .i64 ((d : Int) - F) ∧ d ≤ 2 * F + 1 ∧ m2 ≤ 100000 ∧ Hid (m2 = (part F ps j ++ ext F p d).length) ∧ wi.ownsRow wo.heap.size 22 1 v m2 vs2 ∧ Tab wi wi.heap.size (Taken w.heap.size v) vs2 (part F ps j ++ ext F p d) ∧ Below wo.heap.size wo wi) (fun _ x _ => 2 * F + 1 - (intOf x + F).toNat)
          case atStart => exact ⟨0, m, vs', by simp, Nat.zero_le _, hm, by rw [HE0.out]; exact HM.out, OWN.out.1, by rw [HE0.out]; exact OWN.out.2.1, OWN.out.2.2⟩
          case round =>
            clear OWN
            obtain ⟨d, m2, vs2, rfl, hd, hm2, HM2, hown, ht, hb⟩ := hrel
            have hsi := hb.size
            obtain ⟨wi, hwi⟩ : ∃ wi, wi = wr := ⟨_, rfl⟩
            subst hwi
            by_cases hdF : d < 2 * F + 1
            · have HES := Lib.hid (ext_succ (F := F) (p := p) hdF)
              have HT := Lib.hid ht
              have c0 := (hb.cell (p := ⟨b, off + j, none⟩) hbb).trans HC0.out
              have c1 := (World.cell?_alloc_lt wi (.cells #[] 3) ⟨b, off + j, none⟩ (show b < wi.heap.size by omega)).trans c0
              obtain ⟨f, hf⟩ : ∃ f, f = (d : Int) - F := ⟨_, rfl⟩
              have f1 : -2 ≤ f := by omega
              have f2 : f ≤ F := by omega
              have f3 : f ≤ 2 := by omega
              have HF1 := Lib.hid hf
              rw [← hf]
              have HOW := Lib.hid hown
              have HBI := Lib.hid hb
              have HRR := Lib.hid (show Rd (wi.alloc (.cells #[] 3)) wi.heap.size 1 Ap p.length (ints p) by
                obtain ⟨A', c', e, _, _, h3⟩ := HROW.out.read
                injection e with e1 e2 e3
                subst e1
                exact ((h3.below hb).more hsi).alloc (Nat.le_refl _) _)
              have HO := Lib.hid (show (wi.alloc (.cells #[] 3)).ownsRow wi.heap.size 3 1 (.slice (some ⟨wi.heap.size, 0, none⟩) 0 0) 0 [] from own_empty (blk_new wi 3 #[]) (Nat.le_refl _))
              have HB1 := Lib.hid ((Below.refl wi.heap.size wi).alloc (Nat.le_refl _) (.cells #[] 3))
              clear hf hown ht hb hd
              go_wp2_with (at_builtin; first
                | ((refine app1x rfl (.tmp 29) (.tmp 39) 71 rfl 22 _ 1 24 E71 wo.heap.size _ _ _ _ rfl hown7 _ rfl ?_ ?_ ?_ ?_ ?_ ?_); rfl; rfl; rfl; omega; omega; intro v8 w8 hown8 hg8 hx8)
                | ((refine app1 rfl (.tmp 35) (.tmp 37) 22 rfl 3 _ 1 8 E22 wi.heap.size _ _ _ _ rfl hown5 _ rfl ?_ ?_ ?_ ?_ ?_ ?_); rfl; rfl; rfl; omega; omega; intro v6 w6 hown6 hg6; obtain ⟨A6, c6, rfl, _, _⟩ := own_cap hown6; have hb6 := below_own (below_own HB1.out (by simp) HO.out (Nat.le_refl _) hg5) b5 hown5 (Nat.le_refl _) hg6; have b6 := hb6.size; have hown7 := own_below HOW.out hb6)
                | ((refine appN rfl (.tmp 30) (.tmp 34) 22 rfl 3 _ 1 8 E22 wi.heap.size _ _ _ rfl HO.out wi.heap.size Ap p.length cp (ints p) rfl HRR.out (ints_one _) (by omega) (by simp) ?_); intro v5 w5 hown5 hg5; rw [Nat.zero_add, List.nil_append] at hown5; have b5 := (below_own HB1.out (by simp) HO.out (Nat.le_refl _) hg5).size))
              have hown6' : w6.ownsRow wi.heap.size 3 1 (.slice A6 (p.length + 1) c6) (p ++ [f]).length (ints (p ++ [f])) := by
                rw [List.length_append, ints_snoc]; exact hown6
              have HT2 := Lib.hid (tab_step (by omega) HOW.out HT.out hb6 hown6' hg8 hx8)
              have HB2 := Lib.hid (below_own (HBI.out.trans (hb6.mono hsi)) (by omega) hown7 (Nat.le_refl _) hg8)
              clear hown6' hown6 hown5 hg5 hg6 hg8 hx8
              go_roundw
              case rel =>
                refine ⟨d + 1, m2 + 1, _, by have := HF1.out; go_num, by omega, ?_, ?_, hown8, ?_, HB2.out⟩
                · have h1 := HM2.out
                  have h2 := HPL.out
                  rw [List.length_append] at h1
                  have h3 : (ext F p d).length ≤ 5 := by unfold ext; rw [List.length_map, List.length_take, digs_len]; omega
                  omega
                · rw [HES.out, ← List.append_assoc, List.length_append, ← HM2.out]; rfl
                · rw [HES.out, ← List.append_assoc, ← HF1.out]; exact HT2.out
              case measure => have := HF1.out; simp [intOf]; omega
            · obtain rfl : d = 2 * F + 1 := by omega
              have HFIN := Lib.hid (And.intro hown (And.intro ht hb))
              clear hown ht hb
              go_wp2
              go_roundw
              case rel =>
                refine ⟨j + 1, m2, vs2, by go_num, by omega, hm2, ?_, HFIN.out.1, ?_, HFIN.out.2.2⟩
                · rw [HPA.out]; exact HM2.out
                · rw [HPA.out]; exact HFIN.out.2.1
              case measure => simp [intOf]; omega
        · obtain rfl : j = N := by omega
          have HEQ := Lib.hid (show part F ps j = allP F (q + 1) by
            have h1 := HN.out
            have h2 := HPS.out
            rw [h1, h2]; exact part_all)
          obtain ⟨A2, c2, rfl, _, _⟩ := own_cap hown
          have HR2 := Lib.hid (Rd.of_own hown)
          have HT2 := Lib.hid (ht.at (X' := fun g => g < w.heap.size) (fun g hg => .inl (.inl hg)))
          have HLO2 := Lib.hid (show ∀ b off f, A2 = some ⟨b, off, f⟩ → w.heap.size ≤ b from fun b off f h => by subst h; have := (hown.lt b rfl).1; omega)
          have HB2 := Lib.hid (HBO.out.trans (hb.mono hso))
          have HM2 := Lib.hid (show m ≤ 15625 by
            have h1 := HM.out
            rw [HEQ.out] at h1
            have := allP_bd (F := F) (q := q + 1) hF (by omega)
            omega)
          clear hown ht hb
          go_wp2
          go_roundw
          case rel =>
            refine ⟨q + 1, m, A2, c2, vs', allP F (q + 1), rfl, by go_num, by omega, rfl, HM2.out, ?_, HR2.out, HLO2.out, ?_, HB2.out⟩
            · have h1 := HM.out
              rw [HEQ.out] at h1; exact h1
            · rw [← HEQ.out]; exact HT2.out
          case measure => simp [intOf]; omega
    · obtain rfl : q = n := by omega
      have HFIN := Lib.hid (And.intro hro (And.intro hto hbo))
      clear hro hto hbo
      go_wp2
      go_ret
      have h1 := HPS.out
      have h2 := HN.out
      rw [h1] at h2
      obtain ⟨x1, x2, x3⟩ := HFIN.out
      rw [h1] at x2
      exact ⟨A, c, vs, by rw [h2]; rfl, by rw [← h2]; exact x1, HLO.out, x2, x3⟩
end Go.Proofs.Ytnoocdannfeidaa

/-
  WALK: the reference's Searched, Shortest.
-/
namespace Go.Proofs.Ytnoocdannfeidaa
open Go.RowKit Pulse

set_option maxHeartbeats 400000 in
theorem rSearched (A : Option Addr) (k c : Nat) (ms : List Int) (n f : Int) (w : World) (hl : ms.length ≤ 1000) (B : Nat) (hB : B ≤ w.heap.size) (hr : Rd w B 1 A k (ints ms)) :
    Calls Try.prog 68 #[.slice A k c, .int .i64 n, .int .i64 f] w fun e w' => e = .returned (.int .i64 (srchE ms n f)) ∧ Below w.heap.size w w' := by
  have H := Lib.hid (rareModes A k c ms w hl B hB hr)
  have HS := Lib.hid (show srchE ms n f = if areModes ms = true ∧ 0 ≤ n ∧ n ≤ 6 ∧ 1 ≤ f ∧ f ≤ 2 then 0 else 1 from rfl)
  cases ha : areModes ms with
  | false =>
    have HA := Lib.hid ha
    rw [ha] at H
    clear ha
    go_enter Try.func68, Try.ntmps68
    go_wp2_with fail
    refine H.out.mono ?_
    rintro e w1 ⟨rfl, hb1⟩
    go_wp2
    go_ret
    exact ⟨ret_int (by rw [HS.out, HA.out]; simp), hb1⟩
  | true =>
    have HA := Lib.hid ha
    rw [ha] at H
    clear ha
    have HW1 := Lib.hid (fun W => rwithin n 0 6 W)
    have HW2 := Lib.hid (fun W => rwithin f 1 2 W)
    by_cases h1 : 0 ≤ n ∧ n ≤ 6
    · have e1 : (decide (0 ≤ n) && decide (n ≤ 6)) = true := by simp [h1.1, h1.2]
      rw [e1] at HW1
      by_cases h2 : 1 ≤ f ∧ f ≤ 2
      · have e2 : (decide (1 ≤ f) && decide (f ≤ 2)) = true := by simp [h2.1, h2.2]
        rw [e2] at HW2
        rw [if_pos ⟨HA.out, h1.1, h1.2, h2.1, h2.2⟩] at HS
        clear h1 h2 e1 e2
        go_enter Try.func68, Try.ntmps68
        go_wp2_with fail
        refine H.out.mono ?_
        rintro e w1 ⟨rfl, hb1⟩
        go_wp2_with fail
        refine (HW1.out _).mono ?_
        rintro e w2 ⟨rfl, rfl⟩
        go_wp2_with fail
        refine (HW2.out _).mono ?_
        rintro e w2 ⟨rfl, rfl⟩
        go_wp2
        go_ret
        exact ⟨ret_int (by rw [HS.out]), hb1⟩
      · have e2 : (decide (1 ≤ f) && decide (f ≤ 2)) = false := by simp; omega
        rw [e2] at HW2
        rw [if_neg (fun x => h2 ⟨x.2.2.2.1, x.2.2.2.2⟩)] at HS
        clear h1 h2 e1 e2
        go_enter Try.func68, Try.ntmps68
        go_wp2_with fail
        refine H.out.mono ?_
        rintro e w1 ⟨rfl, hb1⟩
        go_wp2_with fail
        refine (HW1.out _).mono ?_
        rintro e w2 ⟨rfl, rfl⟩
        go_wp2_with fail
        refine (HW2.out _).mono ?_
        rintro e w2 ⟨rfl, rfl⟩
        go_wp2
        go_ret
        exact ⟨ret_int (by rw [HS.out]), hb1⟩
    · have e1 : (decide (0 ≤ n) && decide (n ≤ 6)) = false := by simp; omega
      rw [e1] at HW1
      rw [if_neg (fun x => h1 ⟨x.2.1, x.2.2.1⟩)] at HS
      clear h1 e1
      go_enter Try.func68, Try.ntmps68
      go_wp2_with fail
      refine H.out.mono ?_
      rintro e w1 ⟨rfl, hb1⟩
      go_wp2_with fail
      refine (HW1.out _).mono ?_
      rintro e w2 ⟨rfl, rfl⟩
      go_wp2
      go_ret
      exact ⟨ret_int (by rw [HS.out]), hb1⟩

/-! ### How many pulses are closed -/
def cl (ms : List Int) (L : List (List Int)) (j : Nat) : Nat := (L.take j).countP fun p => shut p ms
theorem cl_succ {ms : List Int} {L : List (List Int)} {j : Nat} (h : j < L.length) : cl ms L (j + 1) = cl ms L j + (if shut L[j] ms then 1 else 0) := by
  unfold cl
  rw [take_snoc _ j h, List.countP_append, List.countP_singleton]
theorem cl_le {ms : List Int} {L : List (List Int)} {j : Nat} : cl ms L j ≤ j := by
  unfold cl
  exact Nat.le_trans (List.countP_le_length ..) (by rw [List.length_take]; omega)
theorem count_but {α : Type} [DecidableEq α] {z : α} {P Q : α → Bool} : ∀ {L : List α}, L.Nodup → z ∈ L → P z = true → (∀ p ∈ L, Q p = (P p && decide (p ≠ z))) → L.countP P = L.countP Q + 1
  | a :: L, hn, hz, hP, hQ => by
    have hn' := List.nodup_cons.1 hn
    by_cases h : a = z
    · subst h
      have h1 : L.countP P = L.countP Q := List.countP_congr fun p hp => by
        rw [hQ p (by simp [hp])]
        have : p ≠ a := fun e => hn'.1 (e ▸ hp)
        simp [this]
      have h2 : Q a = false := by rw [hQ a (by simp)]; simp
      rw [List.countP_cons_of_pos hP, List.countP_cons_of_neg (by rw [h2]; decide), h1]
    · have hz' : z ∈ L := by
        rcases List.mem_cons.1 hz with e | e
        · exact absurd e.symm h
        · exact e
      have h1 := count_but hn'.2 hz' hP (fun p hp => hQ p (by simp [hp]))
      have h2 : Q a = P a := by rw [hQ a (by simp)]; simp [h]
      rw [List.countP_cons, List.countP_cons, h1, h2]
      omega
theorem shut_zeros (n : Nat) (ms : List Int) : shut (List.replicate n 0) ms = true := by
  have h : ms.any (away (List.replicate n 0)) = false := by
    rw [List.any_eq_false]
    intro m _
    unfold away
    rw [endL_zeros]
    simp [V.zero]
  rw [shut, h]; rfl
theorem any_nz {p : List Int} : p.any nz = decide (p ≠ List.replicate p.length 0) := by
  induction p with
  | nil => rfl
  | cons a p ih =>
    rw [List.any_cons, ih, List.length_cons, List.replicate_succ]
    by_cases h : a = 0
    · subst h; simp [nz]
    · simp [nz, h]
theorem found_count (ms : List Int) (F n : Nat) : cl ms (allP F n) (allP F n).length > 1 ↔ foundAt ms F n = true := by
  have hz : List.replicate n (0 : Int) ∈ allP F n := mem_allP.2 ⟨by simp, fun f hf => by rw [(List.mem_replicate.1 hf).2]; omega⟩
  have h1 := count_but (z := List.replicate n (0 : Int)) (P := fun p => shut p ms) (Q := fun p => shut p ms && p.any nz) (allP_nodup F n) hz (shut_zeros n ms) (fun p hp => by
    rw [any_nz, (mem_allP.1 hp).1])
  unfold cl foundAt
  rw [List.take_length, h1, List.any_eq_true]
  constructor
  · intro h
    obtain ⟨p, hp, hq⟩ := List.countP_pos_iff.1 (show 0 < (allP F n).countP (fun p => shut p ms && p.any nz) by omega)
    exact ⟨p, hp, hq⟩
  · rintro ⟨p, hp, hq⟩
    have := (List.countP_pos_iff (p := fun p => shut p ms && p.any nz)).2 ⟨p, hp, hq⟩
    omega

set_option maxRecDepth 100000 in
set_option maxHeartbeats 2000000 in
theorem rShortest (A : Option Addr) (k c : Nat) (ms : List Int) (f : Int) (w : World) (hl : ms.length ≤ 1000) (B : Nat) (hB : B ≤ w.heap.size) (hr : Rd w B 1 A k (ints ms)) :
    Calls Try.prog 27 #[.slice A k c, .int .i64 f] w fun e w' => e = .returned (.tuple #[.int .i64 (shortN ms f), .bool (shortIs ms f), .int .i64 (srchE ms 0 f)]) ∧ Below w.heap.size w w' := by
  have H := Lib.hid (rSearched A k c ms 0 f w hl B hB hr)
  have HI := Lib.hid (show shortIs ms f = decide (shortN ms f ≠ 0) from rfl)
  by_cases h : srchE ms 0 f = 0
  · obtain ⟨h1, _, _, h2, h3⟩ := srchE_ok h
    obtain ⟨h4, h5⟩ := areModes_ok h1
    have HM := Lib.hid h
    have HMS := Lib.hid h5
    rw [h] at H
    have hN1 : shortN ms f = firstLen ms f.toNat := by rw [shortN, if_pos h]
    have HN1 := Lib.hid hN1
    obtain ⟨N, rfl⟩ := Int.eq_ofNat_of_zero_le (show 0 ≤ f by omega)
    clear h h1 h5 hN1
    go_enter Try.func27, Try.ntmps27
    go_wp2_with fail
    refine H.out.mono ?_
    rintro e w1 ⟨rfl, hb1⟩
    go_wp2
    go_loopw [8, 9, 10, 11] (fun v _ _ _ wr => ∃ q : Nat, v = .int .i64 q ∧ 1 ≤ q ∧ q ≤ 7 ∧ Hid (∀ n, 1 ≤ n → n < q → foundAt ms N n = false) ∧ Below w.heap.size w wr) (fun v _ _ _ _ => 7 - (intOf v).toNat)
    case atStart => exact ⟨1, rfl, by omega, by omega, fun n h1 h2 => absurd h1 (by omega), hb1⟩
    case round =>
      clear hb1
      obtain ⟨q, rfl, hq1, hq2, hno, hb⟩ := hrel
      have hsz := hb.size
      by_cases hlt : q ≤ 6
      · have HAL := Lib.hid (rAll q N (by omega) (by omega) wr)
        have hbd := allP_bd (F := N) (q := q) (by omega) hlt
        have HFC := Lib.hid (found_count ms N q)
        have HMEM := Lib.hid (fun p => mem_allP (F := N) (n := q) (p := p))
        have HFL := Lib.hid (fun h hb => firstLen_at (ms := ms) (F := N) hq1 hlt h hb)
        obtain ⟨L, hL⟩ : ∃ L, L = allP N q := ⟨_, rfl⟩
        rw [← hL] at HAL HFC HMEM hbd
        clear hL
        obtain ⟨M, hM⟩ : ∃ M, M = L.length := ⟨_, rfl⟩
        rw [← hM] at HAL HFC hbd
        have HML := Lib.hid hM
        have HB := Lib.hid hb
        clear hb hM
        go_wp2_with fail
        refine HAL.out.mono ?_
        rintro e w2 ⟨Al, cl', vs, rfl, hro, _, hto, hb2⟩
        have HRO := Lib.hid hro
        have HTO := Lib.hid hto
        have HB2 := Lib.hid (HB.out.trans (hb2.mono hsz))
        have s2 := hb2.size
        have HR2 := Lib.hid (hr.below' HB2.out hB)
        clear hro hto hb2 HAL
        go_wp2
        go_loopw [10, 11] (fun n i wr => ∃ j : Nat, i = .int .i64 j ∧ j ≤ M ∧ n = .int .i64 (cl ms L j) ∧ Below w2.heap.size w2 wr) (fun _ i _ => M - (intOf i).toNat)
        case atStart => exact ⟨0, rfl, Nat.zero_le _, rfl, Below.refl _ _⟩
        case round =>
          obtain ⟨j, rfl, hj, rfl, hb⟩ := hrel
          have s3 := hb.size
          obtain ⟨wi, hwi⟩ : ∃ wi, wi = wr := ⟨_, rfl⟩
          subst hwi
          by_cases hjM : j < M
          · have hjL : j < L.length := by have := HML.out; omega
            obtain ⟨hdr, hhd, hrow⟩ := HTO.out.row hjL
            obtain ⟨Ap, cp, rfl, _, _, hrd⟩ := hrow.read
            obtain ⟨b, off, rfl, hbb, hc0⟩ := Rd.head HRO.out hhd
            have hmem := (HMEM.out L[j]).1 (List.getElem_mem hjL)
            have HCS := Lib.hid (cl_succ (ms := ms) hjL)
            have hcle := cl_le (ms := ms) (L := L) (j := j)
            have c0 := (hb.cell (p := ⟨b, off + j, none⟩) hbb).trans hc0
            have HCL := Lib.hid (rclosedIn L[j] ms Ap A cp k c (by rw [hmem.1]; omega) (fun g hg => by have := hmem.2 g hg; omega) HMS.out hl wi w2.heap.size s3 (hrd.below hb) ((HR2.out.below' hb (by have := HB2.out.size; omega)).more (by have := HB2.out.size; omega)))
            obtain ⟨p, hp⟩ : ∃ p, p = L[j] := ⟨_, rfl⟩
            rw [← hp] at c0 HCL HCS
            obtain ⟨x, hx⟩ : ∃ x, x = cl ms L j := ⟨_, rfl⟩
            rw [← hx] at HCS hcle ⊢
            clear hp hhd hrow hrd hc0 hmem hx
            have HB3 := Lib.hid hb
            clear hb
            have hj0 : (0 : Int) ≤ (j : Int) := by omega
            have hj1 : (j : Int) < (M : Int) := by omega
            cases hsh : shut p ms with
            | true =>
              rw [hsh] at HCL HCS
              clear hsh
              go_wp2_with fail
              refine HCL.out.mono ?_
              rintro e w3 ⟨rfl, hb3⟩
              have B3 := HB3.out.trans (hb3.mono s3)
              clear hb3
              go_wp2
              go_roundw
              case rel => exact ⟨j + 1, by go_num, by omega, by rw [HCS.out]; go_num, B3⟩
              case measure => simp [intOf]; omega
            | false =>
              rw [hsh] at HCL HCS
              clear hsh
              go_wp2_with fail
              refine HCL.out.mono ?_
              rintro e w3 ⟨rfl, hb3⟩
              have B3 := HB3.out.trans (hb3.mono s3)
              clear hb3
              go_wp2
              go_roundw
              case rel => exact ⟨j + 1, by go_num, by omega, by rw [HCS.out]; go_num, B3⟩
              case measure => simp [intOf]; omega
          · obtain rfl : j = M := by omega
            have B3 := HB2.out.trans (hb.mono HB2.out.size)
            clear hb
            cases hfa : foundAt ms N q with
            | true =>
              have hgt := HFC.out.2 hfa
              have HF := Lib.hid (HFL.out hfa hno.out)
              have hd : decide (1 < ((cl ms L j : Nat) : Int)) = true := by simp; omega
              clear hfa
              generalize cl ms L j = x at *
              go_wp2
              refine bodyPost_ret (results_tmp3 rfl _ _ _) rfl ?_
              refine ⟨ret_three (by rw [HN1.out]; show _ = Value.int .i64 ((firstLen ms N : Nat) : Int); rw [HF.out]; rfl) (by rw [HI.out, HN1.out]; show _ = Value.bool (decide (((firstLen ms N : Nat) : Int) ≠ 0)); rw [HF.out, decide_eq_true (by omega)]; rfl) (by rw [HM.out]; rfl), B3⟩
            | false =>
              have hgt : ¬ cl ms L j > 1 := fun h => by rw [HFC.out.1 h] at hfa; cases hfa
              have hd : decide (1 < ((cl ms L j : Nat) : Int)) = false := by simp; omega
              have HNO := Lib.hid (show ∀ n, 1 ≤ n → n < q + 1 → foundAt ms N n = false from fun n h1 h2 => by
                rcases Nat.lt_or_ge n q with h | h
                · exact hno.out n h1 h
                · obtain rfl : n = q := by omega
                  exact hfa)
              clear hfa
              generalize cl ms L j = x at *
              go_wp2
              go_roundw
              case rel => exact ⟨q + 1, by go_num, by omega, by omega, HNO, B3⟩
              case measure => simp [intOf]; omega
      · obtain rfl : q = 7 := by omega
        have HFL := Lib.hid (firstLen_none (fun n h1 h2 => hno.out n h1 h2))
        go_wp2
        refine bodyPost_ret (results_tmp3 rfl _ _ _) rfl ?_
        refine ⟨ret_three (by rw [HN1.out]; show _ = Value.int .i64 ((firstLen ms N : Nat) : Int); rw [HFL.out]; rfl) (by rw [HI.out, HN1.out]; show _ = Value.bool (decide (((firstLen ms N : Nat) : Int) ≠ 0)); rw [HFL.out]; rfl) (by rw [HM.out]; rfl), hb⟩
  · have hd : (srchE ms 0 f != 0) = true := by simpa using h
    have hz : shortN ms f = 0 := by rw [shortN, if_neg h]
    have HZ := Lib.hid hz
    clear h hz
    go_enter Try.func27, Try.ntmps27
    go_wp2_with fail
    refine H.out.mono ?_
    rintro e w1 ⟨rfl, hb1⟩
    go_wp2
    refine bodyPost_ret (results_tmp3 rfl _ _ _) rfl ?_
    exact ⟨ret_three (by rw [HZ.out]; rfl) (by rw [HI.out, HZ.out]; rfl) rfl, hb1⟩
end Go.Proofs.Ytnoocdannfeidaa
