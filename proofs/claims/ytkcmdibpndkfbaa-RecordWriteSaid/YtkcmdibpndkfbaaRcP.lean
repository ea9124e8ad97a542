/-
  Checksums and numbers as bytes, plain. No program here.
-/
import Derived.Test.YtkcmdibpndkfbaaWdP
namespace Go.Proofs.Ytkcmdibpndkfbaa

def sF : Nat := 15111065706836454659
/-- The number to which a byte leads. -/
def stepS (h : Nat) (c : UInt8) : Nat := ((h ^^^ c.toNat) * sF % 18446744073709551616) ^^^ ((h ^^^ c.toNat) * sF % 18446744073709551616) / 536870912
theorem stepS_lt (h : Nat) (c : UInt8) : stepS h c < 18446744073709551616 := by
  have h1 : (h ^^^ c.toNat) * sF % 18446744073709551616 < 2 ^ 64 := Nat.mod_lt _ (by decide)
  have h2 : (h ^^^ c.toNat) * sF % 18446744073709551616 / 536870912 < 2 ^ 64 := Nat.lt_of_le_of_lt (Nat.div_le_self _ _) h1
  exact Nat.xor_lt_two_pow h1 h2
/-- The sum of bytes from a number. -/
def fromS (h : Nat) (l : List UInt8) : Nat := l.foldl stepS h
theorem fromS_lt {h : Nat} (hh : h < 18446744073709551616) (l : List UInt8) : fromS h l < 18446744073709551616 := by
  unfold fromS
  have key : ∀ (l : List UInt8) (h B : Nat), (∀ x c, stepS x c < B) → h < B → l.foldl stepS h < B := by
    intro l
    induction l with
    | nil => intro h B _ hh; exact hh
    | cons c l ih => intro h B hs _; rw [List.foldl_cons]; exact ih _ B hs (hs h c)
  exact key l h _ stepS_lt hh
theorem fromS_snoc (h : Nat) (l : List UInt8) (c : UInt8) : fromS h (l ++ [c]) = stepS (fromS h l) c := by
  unfold fromS
  rw [List.foldl_append, List.foldl_cons, List.foldl_nil]
/-- The eight bytes of a number, the least first. -/
def le8 (n : Nat) : List UInt8 := (List.range 8).map fun i => UInt8.ofNat (n / 256 ^ i % 256)
/-- The first of them. -/
def le8to (n k : Nat) : List UInt8 := (List.range k).map fun i => UInt8.ofNat (n / 256 ^ i % 256)
theorem le8to_len (n k : Nat) : (le8to n k).length = k := by unfold le8to; simp
theorem le8to_succ (n k : Nat) : le8to n (k + 1) = le8to n k ++ [UInt8.ofNat (n / 256 ^ k % 256)] := by
  unfold le8to
  rw [List.range_succ, List.map_append]
  rfl
theorem le8_len (n : Nat) : (le8 n).length = 8 := le8to_len n 8
def sS : Nat := 125762890854254
/-- The checksum of bytes. -/
def ofS (l : List UInt8) : Nat := fromS (fromS sS l) (le8 l.length)
theorem ofS_lt (l : List UInt8) : ofS l < 18446744073709551616 := fromS_lt (fromS_lt (by decide) l) _
/-- The four bytes of a number, the greatest first. -/
def be4 (n : Nat) : List UInt8 := [UInt8.ofNat (n / 16777216 % 256), UInt8.ofNat (n / 65536 % 256), UInt8.ofNat (n / 256 % 256), UInt8.ofNat (n % 256)]
/-- The number that four bytes are. -/
def nB (l : List UInt8) : Nat := (l.take 4).foldl (fun n c => n * 256 + c.toNat) 0
theorem nB_be4 (n : Nat) (h : n < 4294967296) (rest : List UInt8) : nB (be4 n ++ rest) = n := by
  unfold nB be4
  simp only [List.cons_append, List.nil_append, List.take_succ_cons, List.take_zero, List.foldl_cons, List.foldl_nil]
  rw [byte_nat _ (Nat.mod_lt _ (by decide)), byte_nat _ (Nat.mod_lt _ (by decide)), byte_nat _ (Nat.mod_lt _ (by decide)), byte_nat _ (Nat.mod_lt _ (by decide))]
  omega

end Go.Proofs.Ytkcmdibpndkfbaa
