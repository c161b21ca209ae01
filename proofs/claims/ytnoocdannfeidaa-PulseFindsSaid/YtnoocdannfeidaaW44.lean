/-
  WALK: the reference's Areas.
-/
import Derived.Test.YtnoocdannfeidaaW39
import Derived.Test.YtnoocdannfeidaaW43
namespace Go.Proofs.Ytnoocdannfeidaa
open Go.RowKit Pulse

/-- Block g holds the truths h 0, .., h (n - 1). -/
def BoolsAt (w : World) (g n : Nat) (h : Nat → Bool) : Prop := ∃ cs : Array Value, w.heap[g]? = some (.cells cs 4 (0, 0)) ∧ cs.size = n ∧ ∀ j : Nat, j < n → cs[j]? = some (.bool (h j))
section
variable {w w' : World} {g n : Nat} {h h' : Nat → Bool}
theorem BoolsAt.lt (H : BoolsAt w g n h) : g < w.heap.size := by obtain ⟨_, h1, _⟩ := H; exact blk_lt h1
theorem BoolsAt.cell (H : BoolsAt w g n h) {i : Nat} (h1 : i < n) : w.cell? ⟨g, i, none⟩ = some (.bool (h i)) := by
  obtain ⟨cs, a, b, c⟩ := H
  rw [blk_cell a, c i h1]
theorem BoolsAt.frozen (H : BoolsAt w g n h) (i : Nat) : w.frozen? ⟨g, i, none⟩ = false := by obtain ⟨_, h1, _⟩ := H; exact blk_frozen h1 i
theorem BoolsAt.keep (H : BoolsAt w g n h) (hk : w'.heap[g]? = w.heap[g]?) : BoolsAt w' g n h := by obtain ⟨cs, a, b, c⟩ := H; exact ⟨cs, hk.trans a, b, c⟩
theorem BoolsAt.below {B : Nat} (H : BoolsAt w g n h) (hb : Below B w w') (hg : g < B) : BoolsAt w' g n h := H.keep (hb.block g hg)
theorem BoolsAt.grown {row : Option Nat} (H : BoolsAt w g n h) (hg : w.grownBy w' row) (hne : some g ≠ row) : BoolsAt w' g n h := H.keep (hg.block g H.lt hne)
theorem BoolsAt.set (H : BoolsAt w g n h) {i : Nat} (x : Bool) (hh : ∀ j, j < n → h' j = if j = i then x else h j) : BoolsAt (w.setCell ⟨g, i, none⟩ (.bool x)) g n h' := by
  obtain ⟨cs, a, b, c⟩ := H
  refine ⟨_, blk_set a _ _, by simpa using b, fun j hj => ?_⟩
  rw [Array.getElem?_setIfInBounds, hh j hj]
  by_cases e : i = j
  · subst e
    rw [if_pos rfl, if_pos (by omega), if_pos rfl]
  · rw [if_neg e, if_neg (fun e' => e e'.symm)]
    exact c j hj
end

def thr (ms : List Int) (L : List (List Int)) (j i : Nat) : Bool := (L.take j).any fun p => shut p ms && (areaL (hd0 ms) p == (i : Int) - 1000)
theorem thr_succ {ms : List Int} {L : List (List Int)} {j : Nat} (h : j < L.length) (i : Nat) : thr ms L (j + 1) i = (thr ms L j i || (shut L[j] ms && (areaL (hd0 ms) L[j] == (i : Int) - 1000))) := by
  unfold thr
  rw [any_take _ _ _ h]
theorem thr_all {ms : List Int} {F n i : Nat} : thr ms (allP F n) (allP F n).length i = hasA ms F n ((i : Int) - 1000) := by
  unfold thr hasA
  rw [List.take_length]
theorem areasTo_succ (ms : List Int) (F n k : Nat) : areasTo ms F n (k + 1) = areasTo ms F n k ++ (if hasA ms F n ((k : Int) - 1000) then [(k : Int) - 1000] else []) := by
  unfold areasTo
  rw [List.range_succ, List.map_append, List.filter_append]
  congr 1
  simp [List.filter_cons]
theorem made_boolsN (w : World) (n : Nat) : BoolsAt (w.alloc (.cells (madeCells #[.bool false] n) 4)) w.heap.size n (fun _ => false) := by
  refine ⟨_, blk_new _ _ _, ?_, ?_⟩
  · rw [← Array.length_toList, toList_madeCells_one]; simp
  · intro j hj
    rw [← Array.getElem?_toList, toList_madeCells_one]
    simp [hj]

set_option maxRecDepth 100000 in
set_option maxHeartbeats 4000000 in
theorem rAreas (A : Option Addr) (k c : Nat) (ms : List Int) (n f : Int) (w : World) (hl : ms.length ≤ 1000) (B : Nat) (hB : B ≤ w.heap.size) (hr : Rd w B 1 A k (ints ms)) :
    Calls Try.prog 41 #[.slice A k c, .int .i64 n, .int .i64 f] w fun e w' => ∃ v, e = .returned (.tuple #[v, .int .i64 (srchE ms n f)]) ∧ w'.ownsRow w.heap.size 3 1 v (areasL ms n f).length (ints (areasL ms n f)) ∧ Below w.heap.size w w' := by
  have H := Lib.hid (rSearched A k c ms n f w hl B hB hr)
  have HL := Lib.hid (show areasL ms n f = if srchE ms n f = 0 then areasTo ms f.toNat n.toNat 2001 else [] from rfl)
  by_cases h : srchE ms n f = 0
  · obtain ⟨h1, n1, n2, h2, h3⟩ := srchE_ok h
    obtain ⟨h4, h5⟩ := areModes_ok h1
    have HM := Lib.hid h
    have HMS := Lib.hid h5
    rw [h] at H
    rw [if_pos h] at HL
    obtain ⟨F, rfl⟩ := Int.eq_ofNat_of_zero_le (show 0 ≤ f by omega)
    obtain ⟨N, rfl⟩ := Int.eq_ofNat_of_zero_le n1
    have hhd : hd0 ms = ms[0].toNat := by simp [hd0, h4]
    have HHD := Lib.hid hhd
    have hin := h5 ms[0] (List.getElem_mem h4)
    have hk := hr.int_len
    have hkp : 0 < k := by omega
    have hmk : ∀ W : World, (Instr.makeSlice 77 (.int .i64 2001) (.int .i64 2001)).run Try.prog W = .ok (.slice (some ⟨W.heap.size, 0, none⟩) 2001 2001) (W.alloc (.cells (madeCells #[.bool false] 2001) 4)) := fun W => run_make_row' (P := Try.prog) 77 4 (.bool false) 1 Try.underlying77 (show (Try.prog.info? 4).map (fun i => (i.zero, i.size, i.bytes)) = some (some (.bool false), 1, 1) by kernel_rfl) rfl .i64 .i64 2001 (by omega) (by omega) W
    clear h h1 h5 hk hhd
    have HBQ := Lib.hid (fun w1 => made_boolsN w1 2001)
    obtain ⟨cs0, hcs⟩ : ∃ cs, cs = madeCells #[Value.bool false] 2001 := ⟨_, rfl⟩
    rw [← hcs] at HBQ hmk
    clear hcs
    go_enter Try.func41, Try.ntmps41
    go_wp2_with fail
    refine H.out.mono ?_
    rintro e w1 ⟨rfl, hb1⟩
    have s1 := hb1.size
    have HBA := Lib.hid (HBQ.out w1)
    have HB1 := Lib.hid (hb1.alloc s1 (.cells cs0 4))
    have HAL := Lib.hid (rAll N F (by omega) (by omega) (w1.alloc (.cells cs0 4)))
    rw [World.size_alloc] at HAL
    have hbd := allP_bd (F := F) (q := N) (by omega) (by omega)
    have HTA := Lib.hid (fun i => thr_all (ms := ms) (F := F) (n := N) (i := i))
    have HMEM := Lib.hid (fun p => mem_allP (F := F) (n := N) (p := p))
    obtain ⟨L, hL⟩ : ∃ L, L = allP F N := ⟨_, rfl⟩
    rw [← hL] at HAL HTA HMEM hbd
    obtain ⟨M, hM⟩ : ∃ M, M = L.length := ⟨_, rfl⟩
    rw [← hM] at HAL HTA hbd
    have HML := Lib.hid hM
    clear hM hL hb1
    go_wp2_with fail
    refine HAL.out.mono ?_
    rintro e w2 ⟨Al, cl', vs, rfl, hro, hlo, hto, hb2⟩
    have s2 := hb2.size
    rw [World.size_alloc] at s2
    have HRO := Lib.hid hro
    have HLO := Lib.hid hlo
    have HTO := Lib.hid hto
    have HB2 := Lib.hid (HB1.out.trans (hb2.mono (by omega)))
    have HBA2 := Lib.hid (HBA.out.below hb2 (by omega))
    clear hro hlo hto hb2 HAL HBA
    clear hmk
    obtain ⟨G, hG⟩ : ∃ G, G = w1.heap.size := ⟨_, rfl⟩
    rw [← hG] at HBA2 HLO HTO s2 ⊢
    have hGw : w.heap.size ≤ G := by omega
    clear hG HB1
    go_wp2
    go_loopw [11] (fun i wr => ∃ j : Nat, i = .int .i64 j ∧ j ≤ M ∧ BoolsAt wr G 2001 (thr ms L j) ∧ Tab wr w2.heap.size (fun g => g < G + 1) vs L ∧ Rd wr w2.heap.size 1 Al M vs ∧ w2.heap.size ≤ wr.heap.size ∧ Below w.heap.size w wr) (fun i _ => M - (intOf i).toNat)
    case atStart => exact ⟨0, rfl, Nat.zero_le _, HBA2.out, HTO.out, HRO.out, Nat.le_refl _, HB2.out⟩
    case round =>
      clear HBA2 HRO HTO HB2
      obtain ⟨j, rfl, hj, hba, hto, hro, hsz, hb⟩ := hrel
      obtain ⟨wi, hwi⟩ : ∃ wi, wi = wr := ⟨_, rfl⟩
      subst hwi
      by_cases hjM : j < M
      · have hjL : j < L.length := by have := HML.out; omega
        obtain ⟨hdr, hhd, hrow⟩ := hto.row hjL
        obtain ⟨Ap, cp, rfl, _, _, hrd⟩ := hrow.read
        obtain ⟨b, off, rfl, hbb, hc0⟩ := Rd.head hro hhd
        have hmem := (HMEM.out L[j]).1 (List.getElem_mem hjL)
        have HTS := Lib.hid (fun i => thr_succ (ms := ms) hjL i)
        have hrm := hr.below' hb hB
        have HCL := Lib.hid (rclosedIn L[j] ms Ap A cp k c (by rw [hmem.1]; omega) (fun g hg => by have := hmem.2 g hg; omega) HMS.out hl wi wi.heap.size (Nat.le_refl _) (hrd.more hsz) (hrm.more (by have := hb.size; omega)))
        have hab := area_bd1000 (m := hd0 ms) (p := L[j]) (by rw [hmem.1]; omega) (fun g hg => by have := hmem.2 g hg; omega)
        have hp6 : L[j].length ≤ 12 := by rw [hmem.1]; omega
        have hpF : Forces 99 L[j] := fun g hg => by have := hmem.2 g hg; omega
        obtain ⟨p, hp⟩ : ∃ p, p = L[j] := ⟨_, rfl⟩
        rw [← hp] at hc0 HCL HTS hab hp6 hpF hrd
        clear hp hhd hrow hmem
        have HI := Lib.hid (And.intro hba (And.intro hto (And.intro hro hb)))
        have HRD := Lib.hid hrd
        have hj0 : (0 : Int) ≤ (j : Int) := by omega
        have hj1 : (j : Int) < (M : Int) := by omega
        clear hba hto hro hb hrd
        cases hsh : shut p ms with
        | true =>
          rw [hsh] at HCL HTS
          clear hsh
          go_wp2_with fail
          refine HCL.out.mono ?_
          rintro e w3 ⟨rfl, hb3⟩
          have s3 := hb3.size
          obtain ⟨hba, hto, hro, hb⟩ := HI.out
          have hba3 := hba.below hb3 (by omega)
          have hbb3 : b < w3.heap.size := by omega
          have c0 := (hb3.cell (p := ⟨b, off + j, none⟩) (show b < wi.heap.size by omega)).trans hc0
          have B3 := hb.trans (hb3.mono hb.size)
          have r3 := HRD.out.below' hb3 (by omega)
          obtain ⟨b', off', rfl, hbb', hm0⟩ := (hr.below' B3 hB).int h4
          rw [Nat.add_zero] at hm0
          have t3 := hto.below hb3 hsz
          have o3 := hro.below' hb3 hsz
          have hbs : b' < w3.heap.size := by have := B3.size; omega
          have hrp3 := HRD.out.below' hb3 hsz
          have HA := Lib.hid (fun s => rarea p ms[0] hp6 hpF hin.1 hin.2 Ap cp (mergeW w3 s) w2.heap.size (by have := (below_mergeW w3 s).size; omega) (hrp3.below' (below_mergeW w3 s) (by omega)))
          rw [← HHD.out] at HA
          obtain ⟨a, ha⟩ : ∃ a, a = areaL (hd0 ms) p := ⟨_, rfl⟩
          rw [← ha] at HA hab HTS
          obtain ⟨m0, hm⟩ : ∃ m0, m0 = ms[0] := ⟨_, rfl⟩
          rw [← hm] at hm0 HA
          clear ha hm hb3 hb hto hro hba
          have HJ := Lib.hid (And.intro hba3 (And.intro t3 (And.intro o3 (And.intro B3 r3))))
          clear hba3 t3 o3 B3 r3
          go_wp2
          have mc := cell_mergeW w3
          have mf := frozen_mergeW w3
          refine wp_region_btail 10 (by kernel_rfl) (by kernel_rfl) ?_
          simp only [List.take_succ_cons, List.take_zero, List.drop_succ_cons, List.drop_zero]
          repeat (go_big_quiet_step (first | (go_at_call 59; refine (HA.out _).mono ?_; rintro e w4 ⟨rfl, hb4⟩; exact ⟨rfl, in_mergeW hb4⟩)))
          refine wpQuiet_nil ?_
          rintro w4 ⟨s4, hs4⟩
          have hb4 := below_mergeW w3 s4
          rw [← hs4] at hb4
          clear hs4 mc mf HA
          obtain ⟨hba, hto, hro, hb, hrd⟩ := HJ.out
          have hba4 := hba.below hb4 (by have := hba.lt; omega)
          have hs4 := hb4.size
          obtain ⟨i, hi⟩ := Int.eq_ofNat_of_zero_le (show 0 ≤ a + 1000 by omega)
          have hi2 : i < 2001 := by omega
          have c5 : w4.cell? ⟨G, i, none⟩ = some (.bool (thr ms L j i)) := hba4.cell hi2
          have f5 := hba4.frozen i
          have hi3 : (a + 1000).toNat = i := by omega
          have hi4 : 0 ≤ a + 1000 := by omega
          have hi5 : a + 1000 < 2001 := by omega
          have W1 := Lib.hid (hba4.set (i := i) (h' := thr ms L (j + 1)) true (fun q hq => by
            rw [HTS.out q]
            by_cases e : q = i
            · subst e
              rw [if_pos rfl]
              have : (a == (q : Int) - 1000) = true := by simp; omega
              rw [this]; simp
            · rw [if_neg e]
              have : (a == (q : Int) - 1000) = false := by simp; omega
              rw [this]; simp))
          have W2 := Lib.hid ((hto.below hb4 (by omega)).setCell (a := ⟨G, i, none⟩) (show G < G + 1 by omega) (.bool true))
          have W3 := Lib.hid (show Rd (w4.setCell ⟨G, i, none⟩ (.bool true)) w2.heap.size 1 (some ⟨b, off, none⟩) M vs from (by
            obtain ⟨h1, h2⟩ := hro.below' hb4 (by omega)
            refine ⟨h1, fun hn => ?_⟩
            obtain ⟨b2, off2, e, hb2, hc2⟩ := h2 hn
            refine ⟨b2, off2, e, hb2, fun q u hu => ?_⟩
            have hg := HLO.out b2 off2 none e
            rw [World.cell?_setCell_other _ _ _ _ (fun e => by injection e with e1; omega)]
            exact hc2 q u hu))
          have W4 := Lib.hid ((hb.trans (hb4.mono hb.size)).setCell (p := ⟨G, i, none⟩) (by simp only []; omega) (.bool true))
          clear hba hto hro hb hrd hba4 hb4 hi
          go_wp2
          go_roundw
          case rel => exact ⟨j + 1, by go_num, by omega, W1.out, W2.out, W3.out, by simp; omega, W4.out⟩
          case measure => simp [intOf]; omega
        | false =>
          rw [hsh] at HCL HTS
          clear hsh
          go_wp2_with fail
          refine HCL.out.mono ?_
          rintro e w3 ⟨rfl, hb3⟩
          obtain ⟨hba, hto, hro, hb⟩ := HI.out
          have V1 := Lib.hid (hba.below hb3 hba.lt)
          have V2 := Lib.hid (hto.below hb3 hsz)
          have V3 := Lib.hid (hro.below' hb3 hsz)
          have V4 := Lib.hid (hb.trans (hb3.mono hb.size))
          have HEQ := Lib.hid (show thr ms L (j + 1) = thr ms L j by funext q; rw [HTS.out q]; simp)
          have s3 := hb3.size
          clear hba hto hro hb hb3
          go_wp2
          go_roundw
          case rel => exact ⟨j + 1, by go_num, by omega, by rw [HEQ.out]; exact V1.out, V2.out, V3.out, by omega, V4.out⟩
          case measure => simp [intOf]; omega
      · obtain rfl : j = M := by omega
        have HI := Lib.hid (And.intro hba hb)
        have hsb := hb.size
        clear hba hto hro hb
        obtain ⟨w5, hw5⟩ : ∃ w5, w5 = wi := ⟨_, rfl⟩
        subst hw5
        go_wp2
        go_loopw [12, 13] (fun v i wr => ∃ q : Nat, i = .int .i64 q ∧ q ≤ 2001 ∧ wr.ownsRow w5.heap.size 3 1 v (areasTo ms F N q).length (ints (areasTo ms F N q)) ∧ Below w5.heap.size w5 wr) (fun _ i _ => 2001 - (intOf i).toNat)
        case atStart => exact ⟨0, rfl, Nat.zero_le _, World.ownsRow_nil .., Below.refl _ _⟩
        case round =>
          obtain ⟨q, rfl, hq, hown, hb⟩ := hrel
          have s6 := hb.size
          by_cases hq1 : q < 2001
          · have c6 := (HI.out.1.below hb HI.out.1.lt).cell hq1
            rw [HTA.out] at c6
            have HST := Lib.hid (areasTo_succ ms F N q)
            have hlen := areasTo_len ms F N q
            have hq0 : (0 : Int) ≤ (q : Int) := by omega
            have hq2 : (q : Int) < 2001 := by omega
            have HOW := Lib.hid (And.intro hown hb)
            have HB6 := Lib.hid (fun (w' : World) => below_own (w' := w') hb s6 hown (Nat.le_refl _))
            clear hb
            cases hh : hasA ms F N ((q : Int) - 1000) with
            | true =>
              rw [hh] at c6 HST
              clear hh
              go_wp2_with (at_builtin; go_must (refine app1 rfl (.tmp 58) (.tmp 61) 22 rfl 3 _ 1 8 E22 w5.heap.size _ _ _ _ rfl hown _ rfl ?_ ?_ ?_ ?_ ?_ ?_); rfl; rfl; rfl; omega; omega; intro v3 w7 hown3 hg3)
              go_roundw
              case rel =>
                refine ⟨q + 1, by go_num, by omega, ?_, HB6.out _ hg3⟩
                rw [HST.out, if_pos rfl, List.length_append, ints_snoc]; exact hown3
              case measure => simp [intOf]; omega
            | false =>
              rw [hh] at c6 HST
              clear hh hown
              go_wp2
              go_roundw
              case rel =>
                refine ⟨q + 1, by go_num, by omega, ?_, HOW.out.2⟩
                rw [HST.out, if_neg (by decide), List.append_nil]; exact HOW.out.1
              case measure => simp [intOf]; omega
          · obtain rfl : q = 2001 := by omega
            obtain ⟨A7, c7, rfl, _, _⟩ := own_cap hown
            have HF := Lib.hid (And.intro (own_base hown hsb) (HI.out.2.trans (hb.mono hsb)))
            clear hown hb
            go_wp2
            go_ret2
            exact ⟨_, ret_two rfl (by rw [HM.out]; rfl), by rw [HL.out]; exact HF.out.1, HF.out.2⟩
  · have hd : (srchE ms n f != 0) = true := by simpa using h
    rw [if_neg h] at HL
    clear h
    go_enter Try.func41, Try.ntmps41
    go_wp2_with fail
    refine H.out.mono ?_
    rintro e w1 ⟨rfl, hb1⟩
    go_wp2
    go_ret2
    exact ⟨_, ret_two rfl rfl, by rw [HL.out]; exact World.ownsRow_nil .., hb1⟩
end Go.Proofs.Ytnoocdannfeidaa
