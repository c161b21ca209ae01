/-
  WALKS: the reference's heats and gates that are too hot.
-/
import Derived.Test.YtkeolmipdoeljaaW1
namespace Go.Proofs.Ytkeolmipdoeljaa
open Go.RowKit Heat

set_option maxHeartbeats 1000000 in
theorem rbefore (A : Option Addr) (k c i : Nat) (l : List HAct) (w : World) (hl : l.length ≤ 1000) (hm : Mild l) (hi : i < l.length) (B : Nat) (hB : B ≤ w.heap.size) (hr : Rd w B 3 A k (actCells l)) :
    Calls Try.prog 75 #[.slice A k c, .int .i64 i] w fun e w' => e = .returned (.int .i64 (before l i)) ∧ Below w.heap.size w w' := by
  obtain rfl := hr.act_len
  go_enter Try.func75, Try.ntmps75
  go_wp2
  go_loopw [5, 6] (fun s j wr => ∃ q : Nat, q ≤ i ∧ j = .int .i64 q ∧ s = .int .i64 (heats cold (l.take q) l[i].ion) ∧ Below w.heap.size w wr) (fun _ j _ => i - (intOf j).toNat)
  case atStart => exact ⟨0, Nat.zero_le _, rfl, rfl, Below.refl _ _⟩
  case round =>
    obtain ⟨q, hq, rfl, rfl, hb⟩ := hrel
    by_cases hlt : q < i
    · have hql : q < l.length := by omega
      obtain ⟨b, off, rfl, hbb, h0, h1, h2⟩ := (hr.below' hb hB).act hql
      obtain ⟨b', off', e, _, g0, g1, g2⟩ := (hr.below' hb hB).act hi
      simp only [Option.some.injEq, Addr.mk.injEq, and_true] at e
      obtain ⟨rfl, rfl⟩ := e
      have bd := heats_cold_bd (l.take q) (hm.take q) l[i].ion
      have hx := hm _ (List.getElem_mem hql)
      have hlen : (l.take q).length ≤ 1000 := by rw [List.length_take]; omega
      have HS := Lib.hid (show heats cold (l.take (q + 1)) l[i].ion = _ from (congrFun (heats_take cold l q hql) _).trans (put_if _ _ _))
      clear g0 g2
      generalize heats cold (l.take q) l[i].ion = s at *
      go_wp2
      go_quiet (fail)
      go_wp2
      all_goals
        go_roundw
        case rel => exact ⟨q + 1, by omega, by go_num, by rw [HS.out]; first | rw [if_pos ‹(l[q].ion == l[i].ion) = true›, if_pos ‹(l[q].kind == 2) = true›] | rw [if_pos ‹(l[q].ion == l[i].ion) = true›, if_neg (by rw [‹(l[q].kind == 2) = false›]; decide)] | rw [if_neg (by rw [‹(l[q].ion == l[i].ion) = false›]; decide)], below_drewN hb nq⟩
        case measure => simp [intOf]; omega
    · obtain rfl : q = i := by omega
      go_wp2
      go_ret
      exact ⟨ret_int (before_eq l q hi).symm, hb⟩

theorem E34 : EOk Try.prog 34 3 (.int .i64 0) 1 8 :=
  ⟨Try.underlying34, by
    obtain ⟨i, h1, h2, h3, h4⟩ := info_parts (show (Try.prog.info? 3).map (fun i => (i.zero, i.size, i.bytes)) = some (some (.int .i64 0), 1, 8) by kernel_rfl)
    exact ⟨i, h1, h2, h3, h4⟩, rfl, by decide, by decide⟩
theorem E22 : EOk Try.prog 22 48 (.agg #[.int .i64 0, .int .i64 0, .int .i64 0]) 3 24 :=
  ⟨Try.underlying22, by
    obtain ⟨i, h1, h2, h3, h4⟩ := info_parts (show (Try.prog.info? 48).map (fun i => (i.zero, i.size, i.bytes)) = some (some (.agg #[.int .i64 0, .int .i64 0, .int .i64 0]), 3, 24) by kernel_rfl)
    exact ⟨i, h1, h2, h3, h4⟩, rfl, by decide, by decide⟩

abbrev ints (l : List Int) : List Value := l.map (Value.int .i64)

/-- The gates of the first k acts that are too hot. -/
def hotTo (limit : Int) (l : List HAct) : Nat → List Int
  | 0 => []
  | q + 1 => hotTo limit l q ++ if (l[q]?.map fun a => decide (a.kind = 1 ∧ limit < before l q)).getD false then [(q : Int)] else []

set_option maxRecDepth 100000 in
set_option maxHeartbeats 1000000 in
theorem rhot (A : Option Addr) (k c : Nat) (limit : Int) (l : List HAct) (w : World) (hl : l.length ≤ 1000) (hm : Mild l) (B : Nat) (hB : B ≤ w.heap.size) (hr : Rd w B 3 A k (actCells l)) :
    Calls Try.prog 67 #[.slice A k c, .int .i64 limit] w fun e w' => ∃ v, e = .returned v ∧ w'.ownsRow w.heap.size 3 1 v (hotTo limit l l.length).length (ints (hotTo limit l l.length)) ∧ Below w.heap.size w w' := by
  obtain rfl := hr.act_len
  go_enter Try.func67, Try.ntmps67
  go_wp2
  go_loopw [5, 6] (fun v j wr => ∃ q : Nat, q ≤ l.length ∧ j = .int .i64 q ∧ wr.ownsRow w.heap.size 3 1 v (hotTo limit l q).length (ints (hotTo limit l q)) ∧ (hotTo limit l q).length ≤ q ∧ Below w.heap.size w wr) (fun _ j _ => l.length - (intOf j).toNat)
  case atStart => exact ⟨0, Nat.zero_le _, rfl, World.ownsRow_nil _ _ _ _, Nat.le_refl _, Below.refl _ _⟩
  case round =>
    obtain ⟨q, hq, rfl, hown, hle, hb⟩ := hrel
    by_cases hlt : q < l.length
    · obtain ⟨b, off, rfl, hbb, h0, h1, h2⟩ := (hr.below' hb hB).act hlt
      have H := Lib.hid (rbefore (some ⟨b, off, none⟩) l.length c q l wr hl hm hlt B (by have := hb.size; omega) (hr.below' hb hB))
      by_cases c1 : l[q].kind = 1
      · by_cases c2 : limit < before l q
        · have HT := Lib.hid (show hotTo limit l (q + 1) = hotTo limit l q ++ [(q : Int)] by rw [hotTo, List.getElem?_eq_getElem hlt]; simp [c1, c2])
          go_wp2_with (first
            | (go_at_call 75; refine H.out.mono ?_; rintro e w1 ⟨rfl, hb1⟩; have hown1 := own_below hown hb1)
            | (at_builtin; go_must (refine app1 rfl (.tmp 26) (.tmp 28) 34 rfl 3 _ 1 8 E34 w.heap.size _ _ _ _ rfl hown1 _ rfl ?_ ?_ ?_ ?_ ?_ ?_); simp; rfl; rfl; omega; (have := hb.size; have := hb1.size; omega); intro v' w2 hown2 hgrow))
          go_roundw
          case rel => exact ⟨q + 1, by omega, by go_num, by rw [HT.out]; simpa using hown2, by rw [HT.out]; simp; omega, below_own (hb.trans (hb1.mono hb.size)) (by have := hb.size; have := hb1.size; omega) hown1 (Nat.le_refl _) hgrow⟩
          case measure => simp [intOf]; omega
        · have HT := Lib.hid (show hotTo limit l (q + 1) = hotTo limit l q by rw [hotTo, List.getElem?_eq_getElem hlt]; simp [c1, c2])
          go_wp2_with (go_at_call 75; refine H.out.mono ?_; rintro e w1 ⟨rfl, hb1⟩)
          go_roundw
          case rel => exact ⟨q + 1, by omega, by go_num, by rw [HT.out]; exact own_below hown hb1, by rw [HT.out]; omega, hb.trans (hb1.mono hb.size)⟩
          case measure => simp [intOf]; omega
      · have HT := Lib.hid (show hotTo limit l (q + 1) = hotTo limit l q by rw [hotTo, List.getElem?_eq_getElem hlt]; simp [c1])
        have hd : (l[q].kind == 1) = false := by simpa using c1
        go_wp2
        go_roundw
        case rel => exact ⟨q + 1, by omega, by go_num, by rw [HT.out]; exact hown, by rw [HT.out]; omega, hb⟩
        case measure => simp [intOf]; omega
    · obtain rfl : q = l.length := by omega
      go_wp2
      go_ret
      exact ⟨_, rfl, hown, hb⟩
end Go.Proofs.Ytkeolmipdoeljaa
