/-
  Do.
-/
import Derived.Test.YtkolilbebkkpdaaDoorRoZ3
namespace Go.Proofs.YtkolilbebkkpdaaDoor
open Go.RowKit Go.Maps

theorem Do_any (w : World) (y : Lay) (s : RS) (o : OpI) (gp : Option Addr) (gc : Nat) (i : Idn) (k : Nat) (hk : k ≤ 1000) (hR : RollAt w y s) (hs : s.Ok k) (ho : o.Ok) (hU : UI w gp o.gs.length o.gs) (hne : o.k = 9 → o.gs ≠ []) :
    Calls Tryd.prog 13 #[.pointer (some ⟨y.r, 0, none⟩), .agg (opC o gp gc), .agg #[.int .i64 i.b, .int .i64 i.s, .int .u64 i.u]] w fun e w' => e = .returned (.tuple #[]) ∧ GoesTo w y (s.act o i) w' := by
  by_cases h14 : 14 ≤ o.k
  · exact Do_high w y s o gp gc i k hk hR hs ho h14
  by_cases h : o.k = 0
  · exact Do_no0 w y s o gp gc i k hk hR hs ho h
  by_cases h : o.k = 1
  · exact Do_create w y s o gp gc i k hk hR hs ho h
  by_cases h : o.k = 2
  · exact Do_add w y s o gp gc i k hk hR hs ho h
  by_cases h : o.k = 3
  · by_cases h0 : o.d = 0
    · exact Do_removeAll w y s o gp gc i k hk hR hs ho h h0
    · exact Do_removeOne w y s o gp gc i k hk hR hs ho h h0
  by_cases h : o.k = 4
  · exact Do_no4 w y s o gp gc i k hk hR hs ho h
  by_cases h : o.k = 5
  · exact Do_promote w y s o gp gc i k hk hR hs ho h
  by_cases h : o.k = 6
  · exact Do_no6 w y s o gp gc i k hk hR hs ho h
  by_cases h : o.k = 7
  · exact Do_no7 w y s o gp gc i k hk hR hs ho h
  by_cases h : o.k = 8
  · exact Do_no8 w y s o gp gc i k hk hR hs ho h
  by_cases h : o.k = 9
  · exact Do_guard w y s o gp gc i k hk hR hs ho h hU (hne h)
  by_cases h : o.k = 10
  · exact Do_no10 w y s o gp gc i k hk hR hs ho h
  by_cases h : o.k = 11
  · exact Do_vouch w y s o gp gc i k hk hR hs ho h
  by_cases h : o.k = 12
  · exact Do_object w y s o gp gc i k hk hR hs ho h
  by_cases h : o.k = 13
  · exact Do_replace w y s o gp gc i k hk hR hs ho h
  have := ho.hk.1
  omega
end Go.Proofs.YtkolilbebkkpdaaDoor
