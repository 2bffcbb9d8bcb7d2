/-
  r05.Make, as a plain function. No statement of its own.
-/
import Derived.Test.YtjgijbaboekghaaOwn3
import Derived.Test.YtjgijbaboekghaaName
import Derived.Test.YtjgijbaboekghaaStmte
set_option linter.unusedVariables false
set_option linter.unusedSimpArgs false
namespace Go.Proofs.Ytjgijbaboekghaa
open Go.RowKit
structure Dr where
  g : Nat
  f : Nat
  e : Nat
  acts : List (Nat × Nat × Nat × Nat)
def parD (f i : Nat) : Nat := (i + f / 4) % 4
def nlD (f i : Nat) : Nat := parD f i + 1 + i % 3
def nsD (i : Nat) : Nat := 1 + i % 2
def fstr (i : Nat) : ByteArray := (⟨#[102]⟩ : ByteArray) ++ strOfNums [48 + (i : Int)]
def fnStrs (f i : Nat) : List ByteArray := fstr i :: ((List.range (nlD f i)).map (fun j => nameS (100 + j)) ++ (List.range (nsD i)).map fun j => nameS (200 + j))
def fnOf (f b i : Nat) : Fn := { name := (b : Int), params := parD f i, locals := (List.range (nlD f i)).map fun j => ((b + 1 + j : Nat) : Int), sites := (List.range (nsD i)).map fun j => ((b + 1 + nlD f i + j : Nat) : Int), body := [] }
def globStrs (g k : Nat) : List ByteArray := (List.range k).map fun j => nameS (j * (1 + g / 4 % 3))
def natInts (n : Nat) : List Int := (List.range n).map fun j : Nat => (j : Int)
def mk2 (g f : Nat) : Nat → List ByteArray × List Fn
  | 0 => (globStrs g (g % 4), [])
  | i + 1 => ((mk2 g f i).1 ++ fnStrs f i, (mk2 g f i).2 ++ [fnOf f (mk2 g f i).1.length i])
def entD (e n : Nat) : List Int := ((List.range n).filter fun i => e / 2 ^ i % 2 == 1).map fun j : Nat => (j : Int)
def nD (f : Nat) : Nat := 1 + f % 4
def jD (n A i : Nat) : Nat := if A < 60 then i * n / A else i * n / 60
def actAt (acts : List (Nat × Nat × Nat × Nat)) (i : Nat) : Nat × Nat × Nat × Nat := acts.getD i (0, 0, 0, 0)
def stOf (g f j : Nat) (x : Nat × Nat × Nat × Nat) : St := stmtS (g % 4) (nD f) (nlD f j) (nsD j) (parD f) x.1 x.2.1 x.2.2.1 x.2.2.2
def addTo (fs : List Fn) (j : Nat) (s : St) : List Fn := fs.modify j fun x => { x with body := x.body ++ [s] }
def bodD (d : Dr) : Nat → List Fn
  | 0 => (mk2 d.g d.f (nD d.f)).2
  | i + 1 => addTo (bodD d i) (jD (nD d.f) d.acts.length i) (stOf d.g d.f (jD (nD d.f) d.acts.length i) (actAt d.acts i))
def rawM (d : Dr) : Mod := { strings := (mk2 d.g d.f (nD d.f)).1, globals := natInts (d.g % 4), funcs := bodD d d.acts.length, entries := entD d.e (nD d.f) }
def makeM (d : Dr) : Mod := canonM (rawM d)
theorem fnStrs_length (f i : Nat) : (fnStrs f i).length = 1 + nlD f i + nsD i := by
  simp only [fnStrs, List.length_cons, List.length_append, List.length_map, List.length_range]
  omega
theorem mk2_length (g f i : Nat) : (mk2 g f i).2.length = i := by
  induction i with
  | zero => rfl
  | succ i ih => rw [mk2, List.length_append, ih]; rfl
theorem par_lt (f i : Nat) : parD f i < 4 := Nat.mod_lt _ (by decide)
theorem nl_lt (f i : Nat) : nlD f i < 7 := by have := par_lt f i; have : i % 3 < 3 := Nat.mod_lt _ (by decide); unfold nlD; omega
theorem ns_lt (i : Nat) : nsD i < 3 := by have : i % 2 < 2 := Nat.mod_lt _ (by decide); unfold nsD; omega
theorem mk2_strs (g f i : Nat) : (mk2 g f i).1.length ≤ 3 + i * 10 := by
  induction i with
  | zero => rw [mk2]; show (globStrs _ _).length ≤ _; unfold globStrs; rw [List.length_map, List.length_range]; have : g % 4 < 4 := Nat.mod_lt _ (by decide); omega
  | succ i ih =>
    rw [mk2]
    show ((mk2 g f i).1 ++ fnStrs f i).length ≤ _
    rw [List.length_append, fnStrs_length]
    have := nl_lt f i
    have := ns_lt i
    omega
theorem addTo_length (fs : List Fn) (j : Nat) (s : St) : (addTo fs j s).length = fs.length := by unfold addTo; rw [List.length_modify]
theorem bodD_length (d : Dr) (i : Nat) : (bodD d i).length = nD d.f := by
  induction i with
  | zero => exact mk2_length _ _ _
  | succ i ih => rw [bodD, addTo_length, ih]
end Go.Proofs.Ytjgijbaboekghaa
