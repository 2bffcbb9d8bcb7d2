/-
  r05.variables (function 58): a variable of a function, by a number.
-/
import Derived.Test.YtjgijbaboekghaaBase
import Derived.Outline
set_option linter.unusedVariables false
set_option linter.unusedSimpArgs false
namespace Go.Proofs.Ytjgijbaboekghaa
open Go.RowKit
/-- A result that lies in memory. -/
theorem results_cell {fn : Func} {a : Tmp} {t : TypeId} (h : fn.results = #[.cell a t]) (tmps : Array Value) (P : Program) (w : World) : (results fn tmps).run P w = ((asAddr (tmps.getD a undef)) >>= fun p => loadVar t p).run P w := by
  simp [results, h]
/-- L locals, G globals. -/
def varOf (L G n : Nat) : Int × Int := if n % (L + G) < L then (1, ((n % (L + G) : Nat) : Int)) else (2, ((n % (L + G) - L : Nat) : Int))
set_option maxRecDepth 20000 in
theorem variables_calls (w : World) (s1 s3 s4 : Value) (G gc L lc n : Nat) (ga la : Option Addr) (f0 f1 f3 f4 : Value) (hL : 0 < L) (hL2 : L ≤ 1000) (hG : G ≤ 1000) (hn : n < 256) :
    Calls Try.prog 58 #[.agg #[s1, .slice ga G gc, s3, s4], .agg #[f0, f1, .slice la L lc, f3, f4], .int .u8 n] w fun e w' => e = .returned (.agg #[.int .u8 (varOf L G n).1, .int .i64 (varOf L G n).2]) ∧ Below w.heap.size w w' := by
  have e : ((n : Int) % ((L : Int) + (G : Int))) = ((n % (L + G) : Nat) : Int) := by rw [Int.natCast_emod, Int.natCast_add]
  have hb : ∀ o1 o2 o3, Below w.heap.size w (((w.alloc o1).alloc o2).alloc o3) := fun o1 o2 o3 => (((Below.refl _ _).alloc (Nat.le_refl _) _).alloc (by simp) _).alloc (by simp; omega) _
  have HB := Lib.hid hb
  have HE := Lib.hid e
  clear hb e
  go_enter Try.func58, Try.ntmps58
  go_wp2
  · rename_i h
    refine bodyPost_ret (v := .agg #[.int .u8 1, .int .i64 ((n : Int) % (L + G))]) (by rw [results_cell rfl]; go_simp) rfl ?_
    refine ⟨?_, HB.out _ _ _⟩
    rw [HE.out] at h ⊢
    rw [varOf, if_pos (by omega)]
  · rename_i h
    refine bodyPost_ret (v := .agg #[.int .u8 2, .int .i64 (wrap64 ((n : Int) % (L + G) - L))]) (by rw [results_cell rfl]; go_simp) rfl ?_
    refine ⟨?_, HB.out _ _ _⟩
    have hlt : n % (L + G) < L + G := Nat.mod_lt _ (by omega)
    rw [HE.out] at h ⊢
    rw [varOf, if_neg (by omega), show wrap64 (((n % (L + G) : Nat) : Int) - (L : Int)) = ((n % (L + G) - L : Nat) : Int) by unfold wrap64; omega]
end Go.Proofs.Ytjgijbaboekghaa
