/-
  MERGED: LTopVolts.
-/
import Derived.Test.YtejjogpgolgdgaaK21
import Derived.Test.YtejjogpgolgdgaaK22
import Derived.Test.YtejjogpgolgdgaaK23
import Derived.Test.YtejjogpgolgdgaaK24
/-
  THE WALK of TopVolts: its ways joined. (Printed by gen_ltopv.py.)
-/
namespace Go.Proofs.Ytejjogpgolgdgaa
open Go.RowKit Pulse

theorem lawTopVolts (A : Option Addr) (k c : Nat) (g : List (List Int)) (A' : Option Addr) (k' c' : Nat) (row : List (List Int)) (Aa : Option Addr) (ka ca : Nat) (xa : List Int) (Ab : Option Addr) (kb cb : Nat) (xb : List Int) (w : World) (hk : k ≤ c) (hc : c ≤ maxLen) (hr : TRd w w.heap.size A k g) (hb : ∀ l ∈ g, l.length ≤ maxLen) (hk' : k' ≤ c') (hc' : c' ≤ maxLen) (hr' : TRd w w.heap.size A' k' row) (hb' : ∀ l ∈ row, l.length ≤ maxLen) (hka : ka ≤ ca) (hca : ca ≤ maxLen) (hra : Rd w w.heap.size 1 Aa ka (ints xa)) (hba : Big xa) (hkb : kb ≤ cb) (hcb : cb ≤ maxLen) (hrb : Rd w w.heap.size 1 Ab kb (ints xb)) (hbb : Big xb)  :
    Calls Try.prog 15 #[.slice A k c, .slice A' k' c', .agg #[.slice Aa ka ca, .slice Ab kb cb]] w fun e w' => e = .returned (.bool true) ∧ Below w.heap.size w w' := by
  cases h : longT g with
  | true => exact topLong0 A k c g A' k' c' row Aa ka ca xa Ab kb cb xb w hk hc hr hb hk' hc' hr' hb' hka hca hra hba hkb hcb hrb hbb h
  | false =>
    cases h' : longT row with
    | true => exact topLong1 A k c g A' k' c' row Aa ka ca xa Ab kb cb xb w hk hc hr hb hk' hc' hr' hb' hka hca hra hba hkb hcb hrb hbb h h'
    | false =>
      cases ha : decide (40 < xa.length) with
      | true => exact topLong2 A k c g A' k' c' row Aa ka ca xa Ab kb cb xb w hk hc hr hb hk' hc' hr' hb' hka hca hra hba hkb hcb hrb hbb h h' ha
      | false =>
        cases hb2 : decide (40 < xb.length) with
        | true => exact topLong3 A k c g A' k' c' row Aa ka ca xa Ab kb cb xb w hk hc hr hb hk' hc' hr' hb' hka hca hra hba hkb hcb hrb hbb h h' ha hb2
        | false =>
          by_cases hv : vldG g = 0
          · by_cases hfa : fieldE g xa = 0
            · by_cases hfb : fieldE g xb = 0
              · exact topWay_two A k c g A' k' c' row Aa ka ca xa Ab kb cb xb w hk hc hr hb hk' hc' hr' hb' hka hca hra hba hkb hcb hrb hbb h h' ha hb2 hv hfa hfb
              · exact topWay_one A k c g A' k' c' row Aa ka ca xa Ab kb cb xb w hk hc hr hb hk' hc' hr' hb' hka hca hra hba hkb hcb hrb hbb h h' ha hb2 hv hfa hfb
            · exact topWay_no A k c g A' k' c' row Aa ka ca xa Ab kb cb xb w hk hc hr hb hk' hc' hr' hb' hka hca hra hba hkb hcb hrb hbb h h' ha hb2 hv hfa
          · exact topBad A k c g A' k' c' row Aa ka ca xa Ab kb cb xb w hk hc hr hb hk' hc' hr' hb' hka hca hra hba hkb hcb hrb hbb h h' ha hb2 hv
end Go.Proofs.Ytejjogpgolgdgaa
