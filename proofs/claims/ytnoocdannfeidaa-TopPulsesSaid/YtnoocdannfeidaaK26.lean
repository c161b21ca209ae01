/-
  MERGED: W44, LSearches.
-/
import Derived.Test.YtnoocdannfeidaaK24
import Derived.Test.YtnoocdannfeidaaK25
import Derived.Test.YtnoocdannfeidaaK1
import Derived.Test.YtnoocdannfeidaaK13
import Derived.Test.YtnoocdannfeidaaK12
/-
  WALK: the reference's Areas.
-/
namespace Go.Proofs.Ytnoocdannfeidaa
open Go.RowKit Pulse

/-- Block g holds the truths h 0, .., h (n - 1). -/
def BoolsAt (w : World) (g n : Nat) (h : Nat → Bool) : Prop := ∃ cs : Array Value, w.heap[g]? = some (.cells cs 4 (0, 0)) ∧ cs.size = n ∧ ∀ j : Nat, j < n → cs[j]? = some (.bool (h j))
section
variable {w w' : World} {g n : Nat} {h h' : Nat → Bool}
theorem BoolsAt.lt (H : BoolsAt w g n h) : g < w.heap.size := by obtain ⟨_, h1, _⟩ := H; exact blk_lt h1
theorem BoolsAt.cell (H : BoolsAt w g n h) {i : Nat} (h1 : i < n) : w.cell? ⟨g, i, none⟩ = some (.bool (h i)) := by
  obtain ⟨cs, a, b, c⟩ := H
  rw [blk_cell a, c i h1]
theorem BoolsAt.frozen (H : BoolsAt w g n h) (i : Nat) : w.frozen? ⟨g, i, none⟩ = false := by obtain ⟨_, h1, _⟩ := H; exact blk_frozen h1 i
theorem BoolsAt.keep (H : BoolsAt w g n h) (hk : w'.heap[g]? = w.heap[g]?) : BoolsAt w' g n h := by obtain ⟨cs, a, b, c⟩ := H; exact ⟨cs, hk.trans a, b, c⟩
theorem BoolsAt.below {B : Nat} (H : BoolsAt w g n h) (hb : Below B w w') (hg : g < B) : BoolsAt w' g n h := H.keep (hb.block g hg)
theorem BoolsAt.grown {row : Option Nat} (H : BoolsAt w g n h) (hg : w.grownBy w' row) (hne : some g ≠ row) : BoolsAt w' g n h := H.keep (hg.block g H.lt hne)
theorem BoolsAt.set (H : BoolsAt w g n h) {i : Nat} (x : Bool) (hh : ∀ j, j < n → h' j = if j = i then x else h j) : BoolsAt (w.setCell ⟨g, i, none⟩ (.bool x)) g n h' := by
  obtain ⟨cs, a, b, c⟩ := H
  refine ⟨_, blk_set a _ _, by simpa using b, fun j hj => ?_⟩
  rw [Array.getElem?_setIfInBounds, hh j hj]
  by_cases e : i = j
  · subst e
    rw [if_pos rfl, if_pos (by omega), if_pos rfl]
  · rw [if_neg e, if_neg (fun e' => e e'.symm)]
    exact c j hj
end

def thr (ms : List Int) (L : List (List Int)) (j i : Nat) : Bool := (L.take j).any fun p => shut p ms && (areaL (hd0 ms) p == (i : Int) - 1000)
theorem thr_succ {ms : List Int} {L : List (List Int)} {j : Nat} (h : j < L.length) (i : Nat) : thr ms L (j + 1) i = (thr ms L j i || (shut L[j] ms && (areaL (hd0 ms) L[j] == (i : Int) - 1000))) := by
  unfold thr
  rw [any_take _ _ _ h]
theorem thr_all {ms : List Int} {F n i : Nat} : thr ms (allP F n) (allP F n).length i = hasA ms F n ((i : Int) - 1000) := by
  unfold thr hasA
  rw [List.take_length]
theorem areasTo_succ (ms : List Int) (F n k : Nat) : areasTo ms F n (k + 1) = areasTo ms F n k ++ (if hasA ms F n ((k : Int) - 1000) then [(k : Int) - 1000] else []) := by
  unfold areasTo
  rw [List.range_succ, List.map_append, List.filter_append]
  congr 1
  simp [List.filter_cons]
theorem made_boolsN (w : World) (n : Nat) : BoolsAt (w.alloc (.cells (madeCells #[.bool false] n) 4)) w.heap.size n (fun _ => false) := by
  refine ⟨_, blk_new _ _ _, ?_, ?_⟩
  · rw [← Array.length_toList, toList_madeCells_one]; simp
  · intro j hj
    rw [← Array.getElem?_toList, toList_madeCells_one]
    simp [hj]

set_option maxRecDepth 100000 in
set_option maxHeartbeats 4000000 in
theorem rAreas (A : Option Addr) (k c : Nat) (ms : List Int) (n f : Int) (w : World) (hl : ms.length ≤ 1000) (B : Nat) (hB : B ≤ w.heap.size) (hr : Rd w B 1 A k (ints ms)) :
    Calls Try.prog 41 #[.slice A k c, .int .i64 n, .int .i64 f] w fun e w' => ∃ v, e = .returned (.tuple #[v, .int .i64 (srchE ms n f)]) ∧ w'.ownsRow w.heap.size 3 1 v (areasL ms n f).length (ints (areasL ms n f)) ∧ Below w.heap.size w w' := by
  have H := Lib.hid (rSearched A k c ms n f w hl B hB hr)
  have HL := Lib.hid (show areasL ms n f = if srchE ms n f = 0 then areasTo ms f.toNat n.toNat 2001 else [] from rfl)
  by_cases h : srchE ms n f = 0
  · obtain ⟨h1, n1, n2, h2, h3⟩ := srchE_ok h
    obtain ⟨h4, h5⟩ := areModes_ok h1
    have HM := Lib.hid h
    have HMS := Lib.hid h5
    rw [h] at H
    rw [if_pos h] at HL
    obtain ⟨F, rfl⟩ := Int.eq_ofNat_of_zero_le (show 0 ≤ f by omega)
    obtain ⟨N, rfl⟩ := Int.eq_ofNat_of_zero_le n1
    have hhd : hd0 ms = ms[0].toNat := by simp [hd0, h4]
    have HHD := Lib.hid hhd
    have hin := h5 ms[0] (List.getElem_mem h4)
    have hk := hr.int_len
    have hkp : 0 < k := by omega
    have hmk : ∀ W : World, (Instr.makeSlice 77 (.int .i64 2001) (.int .i64 2001)).run Try.prog W = .ok (.slice (some ⟨W.heap.size, 0, none⟩) 2001 2001) (W.alloc (.cells (madeCells #[.bool false] 2001) 4)) := fun W => run_make_row' (P := Try.prog) 77 4 (.bool false) 1 Try.underlying77 (show (Try.prog.info? 4).map (fun i => (i.zero, i.size, i.bytes)) = some (some (.bool false), 1, 1) by kernel_rfl) rfl .i64 .i64 2001 (by omega) (by omega) W
    clear h h1 h5 hk hhd
    have HBQ := Lib.hid (fun w1 => made_boolsN w1 2001)
    obtain ⟨cs0, hcs⟩ : ∃ cs, cs = madeCells #[Value.bool false] 2001 := ⟨_, rfl⟩
    rw [← hcs] at HBQ hmk
    clear hcs
    go_enter Try.func41, Try.ntmps41
    go_wp2_with fail
    refine H.out.mono ?_
    rintro e w1 ⟨rfl, hb1⟩
    have s1 := hb1.size
    have HBA := Lib.hid (HBQ.out w1)
    have HB1 := Lib.hid (hb1.alloc s1 (.cells cs0 4))
    have HAL := Lib.hid (rAll N F (by omega) (by omega) (w1.alloc (.cells cs0 4)))
    rw [World.size_alloc] at HAL
    have hbd := allP_bd (F := F) (q := N) (by omega) (by omega)
    have HTA := Lib.hid (fun i => thr_all (ms := ms) (F := F) (n := N) (i := i))
    have HMEM := Lib.hid (fun p => mem_allP (F := F) (n := N) (p := p))
    obtain ⟨L, hL⟩ : ∃ L, L = allP F N := ⟨_, rfl⟩
    rw [← hL] at HAL HTA HMEM hbd
    obtain ⟨M, hM⟩ : ∃ M, M = L.length := ⟨_, rfl⟩
    rw [← hM] at HAL HTA hbd
    have HML := Lib.hid hM
    clear hM hL hb1
    go_wp2_with fail
    refine HAL.out.mono ?_
    rintro e w2 ⟨Al, cl', vs, rfl, hro, hlo, hto, hb2⟩
    have s2 := hb2.size
    rw [World.size_alloc] at s2
    have HRO := Lib.hid hro
    have HLO := Lib.hid hlo
    have HTO := Lib.hid hto
    have HB2 := Lib.hid (HB1.out.trans (hb2.mono (by omega)))
    have HBA2 := Lib.hid (HBA.out.below hb2 (by omega))
    clear hro hlo hto hb2 HAL HBA
    clear hmk
    obtain ⟨G, hG⟩ : ∃ G, G = w1.heap.size := ⟨_, rfl⟩
    rw [← hG] at HBA2 HLO HTO s2 ⊢
    have hGw : w.heap.size ≤ G := by omega
    clear hG HB1
    go_wp2
    go_loopw [11] (fun i wr => ∃ j : Nat, i = .int .i64 j ∧ j ≤ M ∧ BoolsAt wr G 2001 (thr ms L j) ∧ Tab wr w2.heap.size (fun g => g < G + 1) vs L ∧ Rd wr w2.heap.size 1 Al M vs ∧ w2.heap.size ≤ wr.heap.size ∧ Below w.heap.size w wr) (fun i _ => M - (intOf i).toNat)
    case atStart => exact ⟨0, rfl, Nat.zero_le _, HBA2.out, HTO.out, HRO.out, Nat.le_refl _, HB2.out⟩
    case round =>
      clear HBA2 HRO HTO HB2
      obtain ⟨j, rfl, hj, hba, hto, hro, hsz, hb⟩ := hrel
      obtain ⟨wi, hwi⟩ : ∃ wi, wi = wr := ⟨_, rfl⟩
      subst hwi
      by_cases hjM : j < M
      · have hjL : j < L.length := by have := HML.out; omega
        obtain ⟨hdr, hhd, hrow⟩ := hto.row hjL
        obtain ⟨Ap, cp, rfl, _, _, hrd⟩ := hrow.read
        obtain ⟨b, off, rfl, hbb, hc0⟩ := Rd.head hro hhd
        have hmem := (HMEM.out L[j]).1 (List.getElem_mem hjL)
        have HTS := Lib.hid (fun i => thr_succ (ms := ms) hjL i)
        have hrm := hr.below' hb hB
        have HCL := Lib.hid (rclosedIn L[j] ms Ap A cp k c (by rw [hmem.1]; omega) (fun g hg => by have := hmem.2 g hg; omega) HMS.out hl wi wi.heap.size (Nat.le_refl _) (hrd.more hsz) (hrm.more (by have := hb.size; omega)))
        have hab := area_bd1000 (m := hd0 ms) (p := L[j]) (by rw [hmem.1]; omega) (fun g hg => by have := hmem.2 g hg; omega)
        have hp6 : L[j].length ≤ 12 := by rw [hmem.1]; omega
        have hpF : Forces 99 L[j] := fun g hg => by have := hmem.2 g hg; omega
        obtain ⟨p, hp⟩ : ∃ p, p = L[j] := ⟨_, rfl⟩
        rw [← hp] at hc0 HCL HTS hab hp6 hpF hrd
        clear hp hhd hrow hmem
        have HI := Lib.hid (And.intro hba (And.intro hto (And.intro hro hb)))
        have HRD := Lib.hid hrd
        have hj0 : (0 : Int) ≤ (j : Int) := by omega
        have hj1 : (j : Int) < (M : Int) := by omega
        clear hba hto hro hb hrd
        cases hsh : shut p ms with
        | true =>
          rw [hsh] at HCL HTS
          clear hsh
          go_wp2_with fail
          refine HCL.out.mono ?_
          rintro e w3 ⟨rfl, hb3⟩
          have s3 := hb3.size
          obtain ⟨hba, hto, hro, hb⟩ := HI.out
          have hba3 := hba.below hb3 (by omega)
          have hbb3 : b < w3.heap.size := by omega
          have c0 := (hb3.cell (p := ⟨b, off + j, none⟩) (show b < wi.heap.size by omega)).trans hc0
          have B3 := hb.trans (hb3.mono hb.size)
          have r3 := HRD.out.below' hb3 (by omega)
          obtain ⟨b', off', rfl, hbb', hm0⟩ := (hr.below' B3 hB).int h4
          rw [Nat.add_zero] at hm0
          have t3 := hto.below hb3 hsz
          have o3 := hro.below' hb3 hsz
          have hbs : b' < w3.heap.size := by have := B3.size; omega
          have hrp3 := HRD.out.below' hb3 hsz
          have HA := Lib.hid (fun s => rarea p ms[0] hp6 hpF hin.1 hin.2 Ap cp (mergeW w3 s) w2.heap.size (by have := (below_mergeW w3 s).size; omega) (hrp3.below' (below_mergeW w3 s) (by omega)))
          rw [← HHD.out] at HA
          obtain ⟨a, ha⟩ : ∃ a, a = areaL (hd0 ms) p := ⟨_, rfl⟩
          rw [← ha] at HA hab HTS
          obtain ⟨m0, hm⟩ : ∃ m0, m0 = ms[0] := ⟨_, rfl⟩
          rw [← hm] at hm0 HA
          clear ha hm hb3 hb hto hro hba
          have HJ := Lib.hid (And.intro hba3 (And.intro t3 (And.intro o3 (And.intro B3 r3))))
          clear hba3 t3 o3 B3 r3
          go_wp2
          have mc := cell_mergeW w3
          have mf := frozen_mergeW w3
          refine wp_region_btail 10 (by kernel_rfl) (by kernel_rfl) ?_
          simp only [List.take_succ_cons, List.take_zero, List.drop_succ_cons, List.drop_zero]
          repeat (go_big_quiet_step (first | (go_at_call 59; refine (HA.out _).mono ?_; rintro e w4 ⟨rfl, hb4⟩; exact ⟨rfl, in_mergeW hb4⟩)))
          refine wpQuiet_nil ?_
          rintro w4 ⟨s4, hs4⟩
          have hb4 := below_mergeW w3 s4
          rw [← hs4] at hb4
          clear hs4 mc mf HA
          obtain ⟨hba, hto, hro, hb, hrd⟩ := HJ.out
          have hba4 := hba.below hb4 (by have := hba.lt; omega)
          have hs4 := hb4.size
          obtain ⟨i, hi⟩ := Int.eq_ofNat_of_zero_le (show 0 ≤ a + 1000 by omega)
          have hi2 : i < 2001 := by omega
          have c5 : w4.cell? ⟨G, i, none⟩ = some (.bool (thr ms L j i)) := hba4.cell hi2
          have f5 := hba4.frozen i
          have hi3 : (a + 1000).toNat = i := by omega
          have hi4 : 0 ≤ a + 1000 := by omega
          have hi5 : a + 1000 < 2001 := by omega
          have W1 := Lib.hid (hba4.set (i := i) (h' := thr ms L (j + 1)) true (fun q hq => by
            rw [HTS.out q]
            by_cases e : q = i
            · subst e
              rw [if_pos rfl]
              have : (a == (q : Int) - 1000) = true := by simp; omega
              rw [this]; simp
            · rw [if_neg e]
              have : (a == (q : Int) - 1000) = false := by simp; omega
              rw [this]; simp))
          have W2 := Lib.hid ((hto.below hb4 (by omega)).setCell (a := ⟨G, i, none⟩) (show G < G + 1 by omega) (.bool true))
          have W3 := Lib.hid (show Rd (w4.setCell ⟨G, i, none⟩ (.bool true)) w2.heap.size 1 (some ⟨b, off, none⟩) M vs from (by
            obtain ⟨h1, h2⟩ := hro.below' hb4 (by omega)
            refine ⟨h1, fun hn => ?_⟩
            obtain ⟨b2, off2, e, hb2, hc2⟩ := h2 hn
            refine ⟨b2, off2, e, hb2, fun q u hu => ?_⟩
            have hg := HLO.out b2 off2 none e
            rw [World.cell?_setCell_other _ _ _ _ (fun e => by injection e with e1; omega)]
            exact hc2 q u hu))
          have W4 := Lib.hid ((hb.trans (hb4.mono hb.size)).setCell (p := ⟨G, i, none⟩) (by simp only []; omega) (.bool true))
          clear hba hto hro hb hrd hba4 hb4 hi
          go_wp2
          go_roundw
          case rel => exact ⟨j + 1, by go_num, by omega, W1.out, W2.out, W3.out, by simp; omega, W4.out⟩
          case measure => simp [intOf]; omega
        | false =>
          rw [hsh] at HCL HTS
          clear hsh
          go_wp2_with fail
          refine HCL.out.mono ?_
          rintro e w3 ⟨rfl, hb3⟩
          obtain ⟨hba, hto, hro, hb⟩ := HI.out
          have V1 := Lib.hid (hba.below hb3 hba.lt)
          have V2 := Lib.hid (hto.below hb3 hsz)
          have V3 := Lib.hid (hro.below' hb3 hsz)
          have V4 := Lib.hid (hb.trans (hb3.mono hb.size))
          have HEQ := Lib.hid (show thr ms L (j + 1) = thr ms L j by funext q; rw [HTS.out q]; simp)
          have s3 := hb3.size
          clear hba hto hro hb hb3
          go_wp2
          go_roundw
          case rel => exact ⟨j + 1, by go_num, by omega, by rw [HEQ.out]; exact V1.out, V2.out, V3.out, by omega, V4.out⟩
          case measure => simp [intOf]; omega
      · obtain rfl : j = M := by omega
        have HI := Lib.hid (And.intro hba hb)
        have hsb := hb.size
        clear hba hto hro hb
        obtain ⟨w5, hw5⟩ : ∃ w5, w5 = wi := ⟨_, rfl⟩
        subst hw5
        go_wp2
        go_loopw [12, 13] (fun v i wr => ∃ q : Nat, i = .int .i64 q ∧ q ≤ 2001 ∧ wr.ownsRow w5.heap.size 3 1 v (areasTo ms F N q).length (ints (areasTo ms F N q)) ∧ Below w5.heap.size w5 wr) (fun _ i _ => 2001 - (intOf i).toNat)
        case atStart => exact ⟨0, rfl, Nat.zero_le _, World.ownsRow_nil .., Below.refl _ _⟩
        case round =>
          obtain ⟨q, rfl, hq, hown, hb⟩ := hrel
          have s6 := hb.size
          by_cases hq1 : q < 2001
          · have c6 := (HI.out.1.below hb HI.out.1.lt).cell hq1
            rw [HTA.out] at c6
            have HST := Lib.hid (areasTo_succ ms F N q)
            have hlen := areasTo_len ms F N q
            have hq0 : (0 : Int) ≤ (q : Int) := by omega
            have hq2 : (q : Int) < 2001 := by omega
            have HOW := Lib.hid (And.intro hown hb)
            have HB6 := Lib.hid (fun (w' : World) => below_own (w' := w') hb s6 hown (Nat.le_refl _))
            clear hb
            cases hh : hasA ms F N ((q : Int) - 1000) with
            | true =>
              rw [hh] at c6 HST
              clear hh
              go_wp2_with (at_builtin; go_must (refine app1 rfl (.tmp 58) (.tmp 61) 22 rfl 3 _ 1 8 E22 w5.heap.size _ _ _ _ rfl hown _ rfl ?_ ?_ ?_ ?_ ?_ ?_); rfl; rfl; rfl; omega; omega; intro v3 w7 hown3 hg3)
              go_roundw
              case rel =>
                refine ⟨q + 1, by go_num, by omega, ?_, HB6.out _ hg3⟩
                rw [HST.out, if_pos rfl, List.length_append, ints_snoc]; exact hown3
              case measure => simp [intOf]; omega
            | false =>
              rw [hh] at c6 HST
              clear hh hown
              go_wp2
              go_roundw
              case rel =>
                refine ⟨q + 1, by go_num, by omega, ?_, HOW.out.2⟩
                rw [HST.out, if_neg (by decide), List.append_nil]; exact HOW.out.1
              case measure => simp [intOf]; omega
          · obtain rfl : q = 2001 := by omega
            obtain ⟨A7, c7, rfl, _, _⟩ := own_cap hown
            have HF := Lib.hid (And.intro (own_base hown hsb) (HI.out.2.trans (hb.mono hsb)))
            clear hown hb
            go_wp2
            go_ret2
            exact ⟨_, ret_two rfl (by rw [HM.out]; rfl), by rw [HL.out]; exact HF.out.1, HF.out.2⟩
  · have hd : (srchE ms n f != 0) = true := by simpa using h
    rw [if_neg h] at HL
    clear h
    go_enter Try.func41, Try.ntmps41
    go_wp2_with fail
    refine H.out.mono ?_
    rintro e w1 ⟨rfl, hb1⟩
    go_wp2
    go_ret2
    exact ⟨_, ret_two rfl rfl, by rw [HL.out]; exact World.ownsRow_nil .., hb1⟩
end Go.Proofs.Ytnoocdannfeidaa

/-
  THE WALK of the law PulseSearches.
-/
namespace Go.Proofs.Ytnoocdannfeidaa
open Go.RowKit Pulse

set_option maxRecDepth 100000 in
theorem rSameInts5 (A A' : Option Addr) (k k' c c' : Nat) (l m : List Int) (w : World) (hl : l.length ≤ 100000) (hm : m.length ≤ 100000) (B : Nat) (hB : B ≤ w.heap.size) (hr : Rd w B 1 A k (ints l)) (hr' : Rd w B 1 A' k' (ints m)) :
    Calls Try.prog 39 #[.slice A k c, .slice A' k' c'] w fun e w' => e = .returned (.bool (decide (l = m))) ∧ Below w.heap.size w w' := by
  obtain rfl := hr.int_len
  obtain rfl := hr'.int_len
  by_cases hlm : l.length = m.length
  · have HLM := Lib.hid hlm
    have hd : ((l.length : Int) == (m.length : Int)) = true := by simp [hlm]
    have hd' : ((l.length : Int) != (m.length : Int)) = false := by simp [hlm]
    clear hlm
    go_enter Try.func39, Try.ntmps39
    go_wp2
    go_loopw [5] (fun i wr => ∃ q : Nat, q ≤ l.length ∧ i = .int .i64 q ∧ Below w.heap.size w wr ∧ Hid (l.take q = m.take q)) (fun i _ => l.length - (intOf i).toNat)
    case atStart => exact ⟨0, Nat.zero_le _, rfl, Below.refl _ _, rfl⟩
    case round =>
      obtain ⟨q, hq, rfl, hb, HT⟩ := hrel
      by_cases hlt : q < l.length
      · have hlt' : q < m.length := by have := HLM.out; omega
        obtain ⟨b, off, rfl, _, h0⟩ := (hr.below' hb hB).int hlt
        obtain ⟨b', off', rfl, _, h0'⟩ := (hr'.below' hb hB).int hlt'
        have z0 : (0 : Int) ≤ (q : Int) := Int.natCast_nonneg _
        have z1 : (q : Int) < (l.length : Int) := by omega
        have z2 : (q : Int) < (m.length : Int) := by omega
        have HS := Lib.hid (take_snoc' l q hlt)
        have HS' := Lib.hid (take_snoc' m q hlt')
        by_cases he : l[q] = m[q]
        · have HE := Lib.hid he
          have hd1 : (l[q] != m[q]) = false := by simpa using he
          have hd2 : (l[q] == m[q]) = true := by simpa using he
          clear he
          go_wp2
          go_quiet (fail)
          go_wp2
          go_roundw
          case rel => exact ⟨q + 1, by omega, by go_num, below_drewN hb nq, by show l.take (q + 1) = m.take (q + 1); rw [HS.out, HS'.out, HT.out, HE.out]⟩
          case measure => simp [intOf]; omega
        · have HE := Lib.hid he
          have hd1 : (l[q] != m[q]) = true := by simpa using he
          have hd2 : (l[q] == m[q]) = false := by simpa using he
          clear he
          go_wp2
          go_quiet (fail)
          go_wp2
          go_ret
          exact ⟨ret_bool (by symm; apply decide_eq_false; intro h; subst h; exact HE.out rfl), below_drewN hb nq⟩
      · obtain rfl : q = l.length := by omega
        have HE := Lib.hid (show l = m by have := HT.out; rw [List.take_length, HLM.out, List.take_length] at this; exact this)
        go_wp2
        go_ret
        exact ⟨ret_bool (decide_eq_true HE.out).symm, hb⟩
  · have hd : ((l.length : Int) == (m.length : Int)) = false := by simp; omega
    have hd' : ((l.length : Int) != (m.length : Int)) = true := by simp; omega
    have HLM := Lib.hid hlm
    clear hlm
    go_enter Try.func39, Try.ntmps39
    go_wp2
    go_ret
    exact ⟨ret_bool (by symm; apply decide_eq_false; intro h; subst h; exact HLM.out rfl), Below.refl _ _⟩

theorem zero_hasA {ms : List Int} {F n : Nat} : hasA ms F n 0 = true := by
  unfold hasA
  rw [List.any_eq_true]
  refine ⟨List.replicate n 0, mem_allP.2 ⟨by simp, fun f hf => by rw [(List.mem_replicate.1 hf).2]; omega⟩, ?_⟩
  rw [shut_zeros, areaL_zeros]; rfl
theorem has_zero {ms : List Int} {n f : Int} (h : srchE ms n f = 0) : hasB (areasL ms n f) 0 = true := by
  rw [areasL, if_pos h, hasB_iff, mem_areasTo]
  exact ⟨⟨1000, by omega, by omega⟩, zero_hasA⟩

set_option maxRecDepth 100000 in
set_option maxHeartbeats 4000000 in
theorem lawSearches (A : Option Addr) (k c : Nat) (ms : List Int) (n f : Int) (w : World) (hk : k ≤ c) (hc : c ≤ maxLen) (hr : Rd w w.heap.size 1 A k (ints ms)) (_ : Big ms) (_ : I64 n) (_ : I64 f) :
    Calls Try.prog 15 #[.slice A k c, .agg #[.int .i64 n, .int .i64 f]] w fun e w' => e = .returned (.bool true) ∧ Below w.heap.size w w' := by
  have hkm : k ≤ maxLen := Nat.le_trans hk hc
  obtain rfl := hr.int_len
  have HN0 := Lib.hid (blk_new w 50 #[.int .i64 n, .int .i64 f])
  have HB0 := Lib.hid ((Below.refl w.heap.size w).alloc (Nat.le_refl _) (.cells #[.int .i64 n, .int .i64 f] 50))
  have s0 : (w.alloc (.cells #[.int .i64 n, .int .i64 f] 50)).heap.size = w.heap.size + 1 := by simp
  by_cases hL : 100 < ms.length
  · have hd : decide (100 < ms.length) = true := by simpa using hL
    go_enter Try.func15, Try.ntmps15
    go_wp2_with fail
    refine (long _ _ _ _ hkm).mono ?_
    rw [hd]
    rintro e w1 ⟨rfl, rfl⟩
    go_wp2_with fail
    refine (known _).mono ?_
    rintro e w2 ⟨rfl, hb2⟩
    go_wp2
    go_ret
    exact ⟨rfl, HB0.out.trans (hb2.mono (by omega))⟩
  · have hd : decide (100 < ms.length) = false := by simpa using hL
    have hl : ms.length ≤ 1000 := by omega
    have hal := areasL_len ms n f
    have HHZ := Lib.hid (fun h => has_zero (ms := ms) (n := n) (f := f) h)
    have H1 := Lib.hid (fun w1 B hB h => pAreas A ms.length c ms n f w1 hl B hB h)
    have H2 := Lib.hid (fun w1 B hB h => rAreas A ms.length c ms n f w1 hl B hB h)
    obtain ⟨L, hL2⟩ : ∃ L, L = areasL ms n f := ⟨_, rfl⟩
    obtain ⟨e0, he⟩ : ∃ a, a = srchE ms n f := ⟨_, rfl⟩
    rw [← hL2, ← he] at H1 H2 HHZ
    rw [← hL2] at hal
    clear hL2 he
    go_enter Try.func15, Try.ntmps15
    go_wp2_with fail
    refine (long _ _ _ _ hkm).mono ?_
    rw [hd]
    rintro e w1 ⟨rfl, rfl⟩
    clear hL
    go_wp2_with fail
    refine (H1.out _ w.heap.size (by omega) (hr.below HB0.out)).mono ?_
    rintro e w6 ⟨v6, rfl, hown6, hb6⟩
    obtain ⟨A6, c6, rfl, _, _⟩ := own_cap hown6
    have x6 := blk_below HN0.out hb6 (by omega)
    have s6 := hb6.size
    have B6 := HB0.out.trans (hb6.mono (by omega))
    have r6 := Rd.of_own hown6
    have c1 : w6.cell? ⟨w.heap.size, 0, none⟩ = some (.int .i64 n) := blk_cell x6 0
    have c2 : w6.cell? ⟨w.heap.size, 1, none⟩ = some (.int .i64 f) := blk_cell x6 1
    have HX6 := Lib.hid x6
    clear hown6 hb6 x6
    go_wp2_with fail
    refine (H2.out w6 w.heap.size B6.size (hr.below B6)).mono ?_
    rintro e w7 ⟨v7, rfl, hown7, hb7⟩
    obtain ⟨A7, c7, rfl, _, _⟩ := own_cap hown7
    have s7 := hb7.size
    have r6 := (r6.below hb7).more s7
    have B7 := B6.trans (hb7.mono (by omega))
    have r7 := Rd.of_own hown7
    clear hown7 hb7 B6
    go_wp2_with fail
    refine (rSameInts5 A6 A7 L.length L.length c6 c7 L L w7 (by omega) (by omega) w7.heap.size (Nat.le_refl _) r6 r7).mono ?_
    rw [decide_eq_true rfl]
    rintro e w8 ⟨rfl, hb8⟩
    have s8 := hb8.size
    have r6 := (r6.below hb8).more s8
    have B8 := B7.trans (hb8.mono (by omega))
    clear r7 hb8 B7
    by_cases h0 : e0 = 0
    · subst h0
      have HZ := Lib.hid (HHZ.out rfl)
      clear HHZ
      go_wp2_with fail
      refine (rHas A6 L.length c6 L 0 w8 (by omega) w8.heap.size (Nat.le_refl _) r6).mono ?_
      rw [HZ.out]
      rintro e w9 ⟨rfl, hb9⟩
      have s9 := hb9.size
      have B9 := B8.trans (hb9.mono (by omega))
      go_wp2_with fail
      refine (known _).mono ?_
      rintro e w15 ⟨rfl, hb15⟩
      go_wp2
      go_ret
      exact ⟨rfl, B9.trans (hb15.mono (by omega))⟩
    · have hd0 : (e0 != 0) = true := by simpa using h0
      clear h0
      go_wp2_with fail
      refine (known _).mono ?_
      rintro e w9 ⟨rfl, hb9⟩
      go_wp2
      go_ret
      exact ⟨rfl, B8.trans (hb9.mono (by omega))⟩
end Go.Proofs.Ytnoocdannfeidaa
