/- The walk of Split. No condition. -/
import Derived.Test.YtoffcoegghigoaaLexC
import Derived.Test.YtoffcoegghigoaaLabel5
namespace Go.Proofs.Ytoffcoegghigoaa
open Go.RowKit

def SplitDone (w0 : World) (bs : List UInt8) (a : Act) (w : World) : Prop :=
  ∃ (vw : Value) (n : Nat) (out : List (List UInt8)) (u : Nat → Value), a = { tmps := #[.string ⟨bs.toArray⟩, u 1, u 2, u 3, vw, u 5, u 6, u 7, u 8, u 9, u 10, u 11, u 12, u 13, u 14, u 15, u 16, u 17, u 18, u 19, u 20, u 21, u 22, u 23, u 24, u 25, u 26, u 27, u 28, u 29, u 30, u 31, u 32, u 33, u 34, u 35, u 36, u 37, u 38, u 39, u 40, u 41, u 42, u 43, u 44, u 45, u 46, u 47, u 48, u 49, u 50, u 51, u 52, u 53, u 54, u 55, u 56, u 57, u 58, u 59, u 60, u 61, u 62, u 63, u 64, u 65, u 66, u 67, u 68, u 69, u 70, u 71, u 72, u 73, u 74, u 75, u 76, u 77, u 78, u 79, u 80, u 81, u 82, u 83, u 84, u 85, u 86, u 87, u 88, u 89, u 90, u 91, u 92, u 93, u 94, u 95, u 96, u 97, u 98, u 99, u 100, u 101, u 102, u 103, u 104, u 105, u 106, u 107, u 108, u 109, u 110], defers := [] } ∧ some out = lex.run .between [] bs ∧ n = out.length ∧ St (fun _ => False) w0 w [Row 9 1 vw n (texts out)]
def SplitBetween (w0 : World) (bs : List UInt8) (a : Act) (w : World) : Prop :=
  ∃ (vw : Value) (n i : Nat) (out : List (List UInt8)) (u : Nat → Value), a = { tmps := #[.string ⟨bs.toArray⟩, u 1, u 2, u 3, vw, u 5, u 6, .int .i64 (i : Nat), u 8, u 9, u 10, u 11, u 12, u 13, u 14, u 15, u 16, u 17, u 18, u 19, u 20, u 21, u 22, u 23, u 24, u 25, u 26, u 27, u 28, u 29, u 30, u 31, u 32, u 33, u 34, u 35, u 36, u 37, u 38, u 39, u 40, u 41, u 42, u 43, u 44, u 45, u 46, u 47, u 48, u 49, u 50, u 51, u 52, u 53, u 54, u 55, u 56, u 57, u 58, u 59, u 60, u 61, u 62, u 63, u 64, u 65, u 66, u 67, u 68, u 69, u 70, u 71, u 72, u 73, u 74, u 75, u 76, u 77, u 78, u 79, u 80, u 81, u 82, u 83, u 84, u 85, u 86, u 87, u 88, u 89, u 90, u 91, u 92, u 93, u 94, u 95, u 96, u 97, u 98, u 99, u 100, u 101, u 102, u 103, u 104, u 105, u 106, u 107, u 108, u 109, u 110], defers := [] } ∧ lex.run .between out (bs.drop i) = lex.run .between [] bs ∧ n = out.length ∧ n ≤ i ∧ i ≤ bs.length ∧ St (fun _ => False) w0 w [Row 9 1 vw n (texts out)]
def SplitPlain (w0 : World) (bs : List UInt8) (a : Act) (w : World) : Prop :=
  ∃ (vw vb : Value) (n i m : Nat) (out : List (List UInt8)) (wd : List UInt8) (u : Nat → Value), a = { tmps := #[.string ⟨bs.toArray⟩, u 1, u 2, u 3, vw, vb, u 6, .int .i64 (i : Nat), u 8, u 9, u 10, u 11, u 12, u 13, u 14, u 15, u 16, u 17, u 18, u 19, u 20, u 21, u 22, u 23, u 24, u 25, u 26, u 27, u 28, u 29, u 30, u 31, u 32, u 33, u 34, u 35, u 36, u 37, u 38, u 39, u 40, u 41, u 42, u 43, u 44, u 45, u 46, u 47, u 48, u 49, u 50, u 51, u 52, u 53, u 54, u 55, u 56, u 57, u 58, u 59, u 60, u 61, u 62, u 63, u 64, u 65, u 66, u 67, u 68, u 69, u 70, u 71, u 72, u 73, u 74, u 75, u 76, u 77, u 78, u 79, u 80, u 81, u 82, u 83, u 84, u 85, u 86, u 87, u 88, u 89, u 90, u 91, u 92, u 93, u 94, u 95, u 96, u 97, u 98, u 99, u 100, u 101, u 102, u 103, u 104, u 105, u 106, u 107, u 108, u 109, u 110], defers := [] } ∧ lex.run (.plain wd) out (bs.drop i) = lex.run .between [] bs ∧ n = out.length ∧ m = wd.length ∧ n < i ∧ m ≤ i ∧ i ≤ bs.length ∧ St (fun _ => False) w0 w [Row 9 1 vw n (texts out), Row 5 1 vb m (bvs wd)]
def SplitQuoted (w0 : World) (bs : List UInt8) (a : Act) (w : World) : Prop :=
  ∃ (vw vb : Value) (n i m : Nat) (out : List (List UInt8)) (wd : List UInt8) (u : Nat → Value), a = { tmps := #[.string ⟨bs.toArray⟩, u 1, u 2, u 3, vw, vb, u 6, .int .i64 (i : Nat), u 8, u 9, u 10, u 11, u 12, u 13, u 14, u 15, u 16, u 17, u 18, u 19, u 20, u 21, u 22, u 23, u 24, u 25, u 26, u 27, u 28, u 29, u 30, u 31, u 32, u 33, u 34, u 35, u 36, u 37, u 38, u 39, u 40, u 41, u 42, u 43, u 44, u 45, u 46, u 47, u 48, u 49, u 50, u 51, u 52, u 53, u 54, u 55, u 56, u 57, u 58, u 59, u 60, u 61, u 62, u 63, u 64, u 65, u 66, u 67, u 68, u 69, u 70, u 71, u 72, u 73, u 74, u 75, u 76, u 77, u 78, u 79, u 80, u 81, u 82, u 83, u 84, u 85, u 86, u 87, u 88, u 89, u 90, u 91, u 92, u 93, u 94, u 95, u 96, u 97, u 98, u 99, u 100, u 101, u 102, u 103, u 104, u 105, u 106, u 107, u 108, u 109, u 110], defers := [] } ∧ lex.run (.quoted wd) out (bs.drop i) = lex.run .between [] bs ∧ n = out.length ∧ m = wd.length ∧ n < i ∧ m ≤ i ∧ i ≤ bs.length ∧ St (fun _ => False) w0 w [Row 9 1 vw n (texts out), Row 5 1 vb m (bvs wd)]
def SplitBad (w0 : World) (bs : List UInt8) (a : Act) (w : World) : Prop :=
  ∃ (u : Nat → Value), a = { tmps := #[.string ⟨bs.toArray⟩, u 1, u 2, u 3, u 4, u 5, u 6, u 7, u 8, u 9, u 10, u 11, u 12, u 13, u 14, u 15, u 16, u 17, u 18, u 19, u 20, u 21, u 22, u 23, u 24, u 25, u 26, u 27, u 28, u 29, u 30, u 31, u 32, u 33, u 34, u 35, u 36, u 37, u 38, u 39, u 40, u 41, u 42, u 43, u 44, u 45, u 46, u 47, u 48, u 49, u 50, u 51, u 52, u 53, u 54, u 55, u 56, u 57, u 58, u 59, u 60, u 61, u 62, u 63, u 64, u 65, u 66, u 67, u 68, u 69, u 70, u 71, u 72, u 73, u 74, u 75, u 76, u 77, u 78, u 79, u 80, u 81, u 82, u 83, u 84, u 85, u 86, u 87, u 88, u 89, u 90, u 91, u 92, u 93, u 94, u 95, u 96, u 97, u 98, u 99, u 100, u 101, u 102, u 103, u 104, u 105, u 106, u 107, u 108, u 109, u 110], defers := [] } ∧ lex.run .between [] bs = none ∧ St (fun _ => False) w0 w []
theorem SplitDone.mk {w0 : World} {bs : List UInt8} {a : Act} {w : World} {vw : Value} (n : Nat) (out : List (List UInt8)) (h : a = { tmps := #[.string ⟨bs.toArray⟩, a.tmps.getD 1 undef, a.tmps.getD 2 undef, a.tmps.getD 3 undef, vw, a.tmps.getD 5 undef, a.tmps.getD 6 undef, a.tmps.getD 7 undef, a.tmps.getD 8 undef, a.tmps.getD 9 undef, a.tmps.getD 10 undef, a.tmps.getD 11 undef, a.tmps.getD 12 undef, a.tmps.getD 13 undef, a.tmps.getD 14 undef, a.tmps.getD 15 undef, a.tmps.getD 16 undef, a.tmps.getD 17 undef, a.tmps.getD 18 undef, a.tmps.getD 19 undef, a.tmps.getD 20 undef, a.tmps.getD 21 undef, a.tmps.getD 22 undef, a.tmps.getD 23 undef, a.tmps.getD 24 undef, a.tmps.getD 25 undef, a.tmps.getD 26 undef, a.tmps.getD 27 undef, a.tmps.getD 28 undef, a.tmps.getD 29 undef, a.tmps.getD 30 undef, a.tmps.getD 31 undef, a.tmps.getD 32 undef, a.tmps.getD 33 undef, a.tmps.getD 34 undef, a.tmps.getD 35 undef, a.tmps.getD 36 undef, a.tmps.getD 37 undef, a.tmps.getD 38 undef, a.tmps.getD 39 undef, a.tmps.getD 40 undef, a.tmps.getD 41 undef, a.tmps.getD 42 undef, a.tmps.getD 43 undef, a.tmps.getD 44 undef, a.tmps.getD 45 undef, a.tmps.getD 46 undef, a.tmps.getD 47 undef, a.tmps.getD 48 undef, a.tmps.getD 49 undef, a.tmps.getD 50 undef, a.tmps.getD 51 undef, a.tmps.getD 52 undef, a.tmps.getD 53 undef, a.tmps.getD 54 undef, a.tmps.getD 55 undef, a.tmps.getD 56 undef, a.tmps.getD 57 undef, a.tmps.getD 58 undef, a.tmps.getD 59 undef, a.tmps.getD 60 undef, a.tmps.getD 61 undef, a.tmps.getD 62 undef, a.tmps.getD 63 undef, a.tmps.getD 64 undef, a.tmps.getD 65 undef, a.tmps.getD 66 undef, a.tmps.getD 67 undef, a.tmps.getD 68 undef, a.tmps.getD 69 undef, a.tmps.getD 70 undef, a.tmps.getD 71 undef, a.tmps.getD 72 undef, a.tmps.getD 73 undef, a.tmps.getD 74 undef, a.tmps.getD 75 undef, a.tmps.getD 76 undef, a.tmps.getD 77 undef, a.tmps.getD 78 undef, a.tmps.getD 79 undef, a.tmps.getD 80 undef, a.tmps.getD 81 undef, a.tmps.getD 82 undef, a.tmps.getD 83 undef, a.tmps.getD 84 undef, a.tmps.getD 85 undef, a.tmps.getD 86 undef, a.tmps.getD 87 undef, a.tmps.getD 88 undef, a.tmps.getD 89 undef, a.tmps.getD 90 undef, a.tmps.getD 91 undef, a.tmps.getD 92 undef, a.tmps.getD 93 undef, a.tmps.getD 94 undef, a.tmps.getD 95 undef, a.tmps.getD 96 undef, a.tmps.getD 97 undef, a.tmps.getD 98 undef, a.tmps.getD 99 undef, a.tmps.getD 100 undef, a.tmps.getD 101 undef, a.tmps.getD 102 undef, a.tmps.getD 103 undef, a.tmps.getD 104 undef, a.tmps.getD 105 undef, a.tmps.getD 106 undef, a.tmps.getD 107 undef, a.tmps.getD 108 undef, a.tmps.getD 109 undef, a.tmps.getD 110 undef], defers := [] }) (h1 : some out = lex.run .between [] bs) (h2 : n = out.length) (h3 : St (fun _ => False) w0 w [Row 9 1 vw n (texts out)]) : SplitDone w0 bs a w :=
  ⟨vw, n, out, fun k => a.tmps.getD k undef, h, h1, h2, h3⟩
theorem SplitBetween.mk {w0 : World} {bs : List UInt8} {a : Act} {w : World} {vw : Value} {i : Nat} (n : Nat) (out : List (List UInt8)) (h : a = { tmps := #[.string ⟨bs.toArray⟩, a.tmps.getD 1 undef, a.tmps.getD 2 undef, a.tmps.getD 3 undef, vw, a.tmps.getD 5 undef, a.tmps.getD 6 undef, .int .i64 (i : Nat), a.tmps.getD 8 undef, a.tmps.getD 9 undef, a.tmps.getD 10 undef, a.tmps.getD 11 undef, a.tmps.getD 12 undef, a.tmps.getD 13 undef, a.tmps.getD 14 undef, a.tmps.getD 15 undef, a.tmps.getD 16 undef, a.tmps.getD 17 undef, a.tmps.getD 18 undef, a.tmps.getD 19 undef, a.tmps.getD 20 undef, a.tmps.getD 21 undef, a.tmps.getD 22 undef, a.tmps.getD 23 undef, a.tmps.getD 24 undef, a.tmps.getD 25 undef, a.tmps.getD 26 undef, a.tmps.getD 27 undef, a.tmps.getD 28 undef, a.tmps.getD 29 undef, a.tmps.getD 30 undef, a.tmps.getD 31 undef, a.tmps.getD 32 undef, a.tmps.getD 33 undef, a.tmps.getD 34 undef, a.tmps.getD 35 undef, a.tmps.getD 36 undef, a.tmps.getD 37 undef, a.tmps.getD 38 undef, a.tmps.getD 39 undef, a.tmps.getD 40 undef, a.tmps.getD 41 undef, a.tmps.getD 42 undef, a.tmps.getD 43 undef, a.tmps.getD 44 undef, a.tmps.getD 45 undef, a.tmps.getD 46 undef, a.tmps.getD 47 undef, a.tmps.getD 48 undef, a.tmps.getD 49 undef, a.tmps.getD 50 undef, a.tmps.getD 51 undef, a.tmps.getD 52 undef, a.tmps.getD 53 undef, a.tmps.getD 54 undef, a.tmps.getD 55 undef, a.tmps.getD 56 undef, a.tmps.getD 57 undef, a.tmps.getD 58 undef, a.tmps.getD 59 undef, a.tmps.getD 60 undef, a.tmps.getD 61 undef, a.tmps.getD 62 undef, a.tmps.getD 63 undef, a.tmps.getD 64 undef, a.tmps.getD 65 undef, a.tmps.getD 66 undef, a.tmps.getD 67 undef, a.tmps.getD 68 undef, a.tmps.getD 69 undef, a.tmps.getD 70 undef, a.tmps.getD 71 undef, a.tmps.getD 72 undef, a.tmps.getD 73 undef, a.tmps.getD 74 undef, a.tmps.getD 75 undef, a.tmps.getD 76 undef, a.tmps.getD 77 undef, a.tmps.getD 78 undef, a.tmps.getD 79 undef, a.tmps.getD 80 undef, a.tmps.getD 81 undef, a.tmps.getD 82 undef, a.tmps.getD 83 undef, a.tmps.getD 84 undef, a.tmps.getD 85 undef, a.tmps.getD 86 undef, a.tmps.getD 87 undef, a.tmps.getD 88 undef, a.tmps.getD 89 undef, a.tmps.getD 90 undef, a.tmps.getD 91 undef, a.tmps.getD 92 undef, a.tmps.getD 93 undef, a.tmps.getD 94 undef, a.tmps.getD 95 undef, a.tmps.getD 96 undef, a.tmps.getD 97 undef, a.tmps.getD 98 undef, a.tmps.getD 99 undef, a.tmps.getD 100 undef, a.tmps.getD 101 undef, a.tmps.getD 102 undef, a.tmps.getD 103 undef, a.tmps.getD 104 undef, a.tmps.getD 105 undef, a.tmps.getD 106 undef, a.tmps.getD 107 undef, a.tmps.getD 108 undef, a.tmps.getD 109 undef, a.tmps.getD 110 undef], defers := [] }) (h1 : lex.run .between out (bs.drop i) = lex.run .between [] bs) (h2 : n = out.length) (h3 : n ≤ i) (h4 : i ≤ bs.length) (h5 : St (fun _ => False) w0 w [Row 9 1 vw n (texts out)]) : SplitBetween w0 bs a w :=
  ⟨vw, n, i, out, fun k => a.tmps.getD k undef, h, h1, h2, h3, h4, h5⟩
theorem SplitPlain.mk {w0 : World} {bs : List UInt8} {a : Act} {w : World} {vw vb : Value} {i : Nat} (n m : Nat) (out : List (List UInt8)) (wd : List UInt8) (h : a = { tmps := #[.string ⟨bs.toArray⟩, a.tmps.getD 1 undef, a.tmps.getD 2 undef, a.tmps.getD 3 undef, vw, vb, a.tmps.getD 6 undef, .int .i64 (i : Nat), a.tmps.getD 8 undef, a.tmps.getD 9 undef, a.tmps.getD 10 undef, a.tmps.getD 11 undef, a.tmps.getD 12 undef, a.tmps.getD 13 undef, a.tmps.getD 14 undef, a.tmps.getD 15 undef, a.tmps.getD 16 undef, a.tmps.getD 17 undef, a.tmps.getD 18 undef, a.tmps.getD 19 undef, a.tmps.getD 20 undef, a.tmps.getD 21 undef, a.tmps.getD 22 undef, a.tmps.getD 23 undef, a.tmps.getD 24 undef, a.tmps.getD 25 undef, a.tmps.getD 26 undef, a.tmps.getD 27 undef, a.tmps.getD 28 undef, a.tmps.getD 29 undef, a.tmps.getD 30 undef, a.tmps.getD 31 undef, a.tmps.getD 32 undef, a.tmps.getD 33 undef, a.tmps.getD 34 undef, a.tmps.getD 35 undef, a.tmps.getD 36 undef, a.tmps.getD 37 undef, a.tmps.getD 38 undef, a.tmps.getD 39 undef, a.tmps.getD 40 undef, a.tmps.getD 41 undef, a.tmps.getD 42 undef, a.tmps.getD 43 undef, a.tmps.getD 44 undef, a.tmps.getD 45 undef, a.tmps.getD 46 undef, a.tmps.getD 47 undef, a.tmps.getD 48 undef, a.tmps.getD 49 undef, a.tmps.getD 50 undef, a.tmps.getD 51 undef, a.tmps.getD 52 undef, a.tmps.getD 53 undef, a.tmps.getD 54 undef, a.tmps.getD 55 undef, a.tmps.getD 56 undef, a.tmps.getD 57 undef, a.tmps.getD 58 undef, a.tmps.getD 59 undef, a.tmps.getD 60 undef, a.tmps.getD 61 undef, a.tmps.getD 62 undef, a.tmps.getD 63 undef, a.tmps.getD 64 undef, a.tmps.getD 65 undef, a.tmps.getD 66 undef, a.tmps.getD 67 undef, a.tmps.getD 68 undef, a.tmps.getD 69 undef, a.tmps.getD 70 undef, a.tmps.getD 71 undef, a.tmps.getD 72 undef, a.tmps.getD 73 undef, a.tmps.getD 74 undef, a.tmps.getD 75 undef, a.tmps.getD 76 undef, a.tmps.getD 77 undef, a.tmps.getD 78 undef, a.tmps.getD 79 undef, a.tmps.getD 80 undef, a.tmps.getD 81 undef, a.tmps.getD 82 undef, a.tmps.getD 83 undef, a.tmps.getD 84 undef, a.tmps.getD 85 undef, a.tmps.getD 86 undef, a.tmps.getD 87 undef, a.tmps.getD 88 undef, a.tmps.getD 89 undef, a.tmps.getD 90 undef, a.tmps.getD 91 undef, a.tmps.getD 92 undef, a.tmps.getD 93 undef, a.tmps.getD 94 undef, a.tmps.getD 95 undef, a.tmps.getD 96 undef, a.tmps.getD 97 undef, a.tmps.getD 98 undef, a.tmps.getD 99 undef, a.tmps.getD 100 undef, a.tmps.getD 101 undef, a.tmps.getD 102 undef, a.tmps.getD 103 undef, a.tmps.getD 104 undef, a.tmps.getD 105 undef, a.tmps.getD 106 undef, a.tmps.getD 107 undef, a.tmps.getD 108 undef, a.tmps.getD 109 undef, a.tmps.getD 110 undef], defers := [] }) (h1 : lex.run (.plain wd) out (bs.drop i) = lex.run .between [] bs) (h2 : n = out.length) (h2' : m = wd.length) (h3 : n < i) (h3' : m ≤ i) (h4 : i ≤ bs.length) (h5 : St (fun _ => False) w0 w [Row 9 1 vw n (texts out), Row 5 1 vb m (bvs wd)]) : SplitPlain w0 bs a w :=
  ⟨vw, vb, n, i, m, out, wd, fun k => a.tmps.getD k undef, h, h1, h2, h2', h3, h3', h4, h5⟩
theorem SplitQuoted.mk {w0 : World} {bs : List UInt8} {a : Act} {w : World} {vw vb : Value} {i : Nat} (n m : Nat) (out : List (List UInt8)) (wd : List UInt8) (h : a = { tmps := #[.string ⟨bs.toArray⟩, a.tmps.getD 1 undef, a.tmps.getD 2 undef, a.tmps.getD 3 undef, vw, vb, a.tmps.getD 6 undef, .int .i64 (i : Nat), a.tmps.getD 8 undef, a.tmps.getD 9 undef, a.tmps.getD 10 undef, a.tmps.getD 11 undef, a.tmps.getD 12 undef, a.tmps.getD 13 undef, a.tmps.getD 14 undef, a.tmps.getD 15 undef, a.tmps.getD 16 undef, a.tmps.getD 17 undef, a.tmps.getD 18 undef, a.tmps.getD 19 undef, a.tmps.getD 20 undef, a.tmps.getD 21 undef, a.tmps.getD 22 undef, a.tmps.getD 23 undef, a.tmps.getD 24 undef, a.tmps.getD 25 undef, a.tmps.getD 26 undef, a.tmps.getD 27 undef, a.tmps.getD 28 undef, a.tmps.getD 29 undef, a.tmps.getD 30 undef, a.tmps.getD 31 undef, a.tmps.getD 32 undef, a.tmps.getD 33 undef, a.tmps.getD 34 undef, a.tmps.getD 35 undef, a.tmps.getD 36 undef, a.tmps.getD 37 undef, a.tmps.getD 38 undef, a.tmps.getD 39 undef, a.tmps.getD 40 undef, a.tmps.getD 41 undef, a.tmps.getD 42 undef, a.tmps.getD 43 undef, a.tmps.getD 44 undef, a.tmps.getD 45 undef, a.tmps.getD 46 undef, a.tmps.getD 47 undef, a.tmps.getD 48 undef, a.tmps.getD 49 undef, a.tmps.getD 50 undef, a.tmps.getD 51 undef, a.tmps.getD 52 undef, a.tmps.getD 53 undef, a.tmps.getD 54 undef, a.tmps.getD 55 undef, a.tmps.getD 56 undef, a.tmps.getD 57 undef, a.tmps.getD 58 undef, a.tmps.getD 59 undef, a.tmps.getD 60 undef, a.tmps.getD 61 undef, a.tmps.getD 62 undef, a.tmps.getD 63 undef, a.tmps.getD 64 undef, a.tmps.getD 65 undef, a.tmps.getD 66 undef, a.tmps.getD 67 undef, a.tmps.getD 68 undef, a.tmps.getD 69 undef, a.tmps.getD 70 undef, a.tmps.getD 71 undef, a.tmps.getD 72 undef, a.tmps.getD 73 undef, a.tmps.getD 74 undef, a.tmps.getD 75 undef, a.tmps.getD 76 undef, a.tmps.getD 77 undef, a.tmps.getD 78 undef, a.tmps.getD 79 undef, a.tmps.getD 80 undef, a.tmps.getD 81 undef, a.tmps.getD 82 undef, a.tmps.getD 83 undef, a.tmps.getD 84 undef, a.tmps.getD 85 undef, a.tmps.getD 86 undef, a.tmps.getD 87 undef, a.tmps.getD 88 undef, a.tmps.getD 89 undef, a.tmps.getD 90 undef, a.tmps.getD 91 undef, a.tmps.getD 92 undef, a.tmps.getD 93 undef, a.tmps.getD 94 undef, a.tmps.getD 95 undef, a.tmps.getD 96 undef, a.tmps.getD 97 undef, a.tmps.getD 98 undef, a.tmps.getD 99 undef, a.tmps.getD 100 undef, a.tmps.getD 101 undef, a.tmps.getD 102 undef, a.tmps.getD 103 undef, a.tmps.getD 104 undef, a.tmps.getD 105 undef, a.tmps.getD 106 undef, a.tmps.getD 107 undef, a.tmps.getD 108 undef, a.tmps.getD 109 undef, a.tmps.getD 110 undef], defers := [] }) (h1 : lex.run (.quoted wd) out (bs.drop i) = lex.run .between [] bs) (h2 : n = out.length) (h2' : m = wd.length) (h3 : n < i) (h3' : m ≤ i) (h4 : i ≤ bs.length) (h5 : St (fun _ => False) w0 w [Row 9 1 vw n (texts out), Row 5 1 vb m (bvs wd)]) : SplitQuoted w0 bs a w :=
  ⟨vw, vb, n, i, m, out, wd, fun k => a.tmps.getD k undef, h, h1, h2, h2', h3, h3', h4, h5⟩
theorem SplitBad.mk {w0 : World} {bs : List UInt8} {a : Act} {w : World} (h : a = { tmps := #[.string ⟨bs.toArray⟩, a.tmps.getD 1 undef, a.tmps.getD 2 undef, a.tmps.getD 3 undef, a.tmps.getD 4 undef, a.tmps.getD 5 undef, a.tmps.getD 6 undef, a.tmps.getD 7 undef, a.tmps.getD 8 undef, a.tmps.getD 9 undef, a.tmps.getD 10 undef, a.tmps.getD 11 undef, a.tmps.getD 12 undef, a.tmps.getD 13 undef, a.tmps.getD 14 undef, a.tmps.getD 15 undef, a.tmps.getD 16 undef, a.tmps.getD 17 undef, a.tmps.getD 18 undef, a.tmps.getD 19 undef, a.tmps.getD 20 undef, a.tmps.getD 21 undef, a.tmps.getD 22 undef, a.tmps.getD 23 undef, a.tmps.getD 24 undef, a.tmps.getD 25 undef, a.tmps.getD 26 undef, a.tmps.getD 27 undef, a.tmps.getD 28 undef, a.tmps.getD 29 undef, a.tmps.getD 30 undef, a.tmps.getD 31 undef, a.tmps.getD 32 undef, a.tmps.getD 33 undef, a.tmps.getD 34 undef, a.tmps.getD 35 undef, a.tmps.getD 36 undef, a.tmps.getD 37 undef, a.tmps.getD 38 undef, a.tmps.getD 39 undef, a.tmps.getD 40 undef, a.tmps.getD 41 undef, a.tmps.getD 42 undef, a.tmps.getD 43 undef, a.tmps.getD 44 undef, a.tmps.getD 45 undef, a.tmps.getD 46 undef, a.tmps.getD 47 undef, a.tmps.getD 48 undef, a.tmps.getD 49 undef, a.tmps.getD 50 undef, a.tmps.getD 51 undef, a.tmps.getD 52 undef, a.tmps.getD 53 undef, a.tmps.getD 54 undef, a.tmps.getD 55 undef, a.tmps.getD 56 undef, a.tmps.getD 57 undef, a.tmps.getD 58 undef, a.tmps.getD 59 undef, a.tmps.getD 60 undef, a.tmps.getD 61 undef, a.tmps.getD 62 undef, a.tmps.getD 63 undef, a.tmps.getD 64 undef, a.tmps.getD 65 undef, a.tmps.getD 66 undef, a.tmps.getD 67 undef, a.tmps.getD 68 undef, a.tmps.getD 69 undef, a.tmps.getD 70 undef, a.tmps.getD 71 undef, a.tmps.getD 72 undef, a.tmps.getD 73 undef, a.tmps.getD 74 undef, a.tmps.getD 75 undef, a.tmps.getD 76 undef, a.tmps.getD 77 undef, a.tmps.getD 78 undef, a.tmps.getD 79 undef, a.tmps.getD 80 undef, a.tmps.getD 81 undef, a.tmps.getD 82 undef, a.tmps.getD 83 undef, a.tmps.getD 84 undef, a.tmps.getD 85 undef, a.tmps.getD 86 undef, a.tmps.getD 87 undef, a.tmps.getD 88 undef, a.tmps.getD 89 undef, a.tmps.getD 90 undef, a.tmps.getD 91 undef, a.tmps.getD 92 undef, a.tmps.getD 93 undef, a.tmps.getD 94 undef, a.tmps.getD 95 undef, a.tmps.getD 96 undef, a.tmps.getD 97 undef, a.tmps.getD 98 undef, a.tmps.getD 99 undef, a.tmps.getD 100 undef, a.tmps.getD 101 undef, a.tmps.getD 102 undef, a.tmps.getD 103 undef, a.tmps.getD 104 undef, a.tmps.getD 105 undef, a.tmps.getD 106 undef, a.tmps.getD 107 undef, a.tmps.getD 108 undef, a.tmps.getD 109 undef, a.tmps.getD 110 undef], defers := [] }) (h1 : lex.run .between [] bs = none) (h3 : St (fun _ => False) w0 w []) : SplitBad w0 bs a w :=
  ⟨fun k => a.tmps.getD k undef, h, h1, h3⟩
def SplitJ (w0 : World) (bs : List UInt8) : Nat → Act → World → Prop
  | 0 => SplitDone w0 bs
  | 1 => SplitBetween w0 bs
  | 2 => SplitQuoted w0 bs
  | 3 => SplitBad w0 bs
  | 4 => SplitPlain w0 bs
  | _ => fun _ _ => False
def SplitMu (len : Nat) : Nat → Act → World → Nat
  | 1, a, _ => 2 * (len - (intOf (a.tmps.getD 7 undef)).toNat) + 1
  | 2, a, _ => 2 * (len - (intOf (a.tmps.getD 7 undef)).toNat) + 2
  | 4, a, _ => 2 * (len - (intOf (a.tmps.getD 7 undef)).toNat) + 2
  | _, _, _ => 0
theorem SplitJ_lt (w0 : World) (bs : List UInt8) : ∀ l a w, SplitJ w0 bs l a w → l < 5
  | 0, _, _, _ => by omega
  | 1, _, _, _ => by omega
  | 2, _, _, _ => by omega
  | 3, _, _, _ => by omega
  | 4, _, _, _ => by omega
  | _ + 5, _, _, h => h.elim
theorem drop_next {bs t : List UInt8} {i : Nat} {c : UInt8} (h : bs.drop i = c :: t) : bs.drop (i + 1) = t ∧ i < bs.length := by
  have hi : i < bs.length := by
    rcases Nat.lt_or_ge i bs.length with h1 | h1
    · exact h1
    · rw [List.drop_eq_nil_of_le h1] at h; cases h
  rw [List.drop_eq_getElem_cons hi] at h
  exact ⟨(List.cons.inj h).2, hi⟩

set_option maxHeartbeats 4000000 in
set_option maxRecDepth 100000 in
theorem lex_split (bs : List UInt8) (hbl : bs.length ≤ 9223372036854775807) (w : World) :
    Calls Try.prog 12 #[textV bs] w fun e w' => ∃ v, e = .returned (.tuple #[v, .int .i64 (lex.splitW bs).2]) ∧ St (fun _ => False) w w' [Row 9 1 v (lex.splitW bs).1.length (texts (lex.splitW bs).1)] := by
  have hsz := text_size bs
  have hsp : lex.splitW bs = if 4096 < bs.length then (([] : List (List UInt8)), (12 : Int)) else match lex.run .between [] bs with
    | none => ([], 11)
    | some l => if 64 < l.length then ([], 30) else (l, 0) := rfl
  have hsph := Lib.hid hsp
  clear hsp
  have H00 : St (fun _ => False) w w [Row 9 1 (.slice none 0 0) 0 (texts [])] := (St.nil (fun _ => False) w).row_nil 9 1
  by_cases hlong : (4096 : Int) < bs.length
  · have z1 : decide ((4096 : Int) < (bs.length : Int)) = true := by simpa using hlong
    unfold textV
    go_enter Try.func12, Try.ntmps12
    go_wp2
    refine wp_scope_fam (fun _ _ _ => False) (fun _ _ _ => 0) (fun _ => .skip) (fun _ _ _ h => h.elim) (fun _ _ _ h => h.elim) (fun _ => ?_)
    go_wp2
    simp only [exitFam]
    go_ret2
    rw [hsph.out, if_pos (by omega)]
    exact ⟨_, rfl, H00⟩
  · have z1 : decide ((4096 : Int) < (bs.length : Int)) = false := by simpa using hlong
    unfold textV
    go_enter Try.func12, Try.ntmps12
    go_wp2
    refine wp_scope_five (R0 := ?R0) (R1 := ?R1) (R2 := ?R2) (R3 := ?R3) (R4 := ?R4) (SplitJ w bs) (SplitMu bs.length) (SplitJ_lt w bs) ?h0 ?h1 ?h2 ?h3 ?h4 ?r0 ?r1 ?r2 ?r3 ?r4 ?first
    case h0 => iterate 130 with_reducible (first | done | exact find_hit | exact none_region | exact none_cond | exact none_block | exact none_goto | exact none_ret | exact none_skip | exact none_label (by decide) | refine find_right ?_ ?_ | refine none_seq ?_ ?_)
    case h1 => iterate 130 with_reducible (first | done | exact find_hit | exact none_region | exact none_cond | exact none_block | exact none_goto | exact none_ret | exact none_skip | exact none_label (by decide) | refine find_right ?_ ?_ | refine none_seq ?_ ?_)
    case h2 => iterate 130 with_reducible (first | done | exact find_hit | exact none_region | exact none_cond | exact none_block | exact none_goto | exact none_ret | exact none_skip | exact none_label (by decide) | refine find_right ?_ ?_ | refine none_seq ?_ ?_)
    case h3 => iterate 130 with_reducible (first | done | exact find_hit | exact none_region | exact none_cond | exact none_block | exact none_goto | exact none_ret | exact none_skip | exact none_label (by decide) | refine find_right ?_ ?_ | refine none_seq ?_ ?_)
    case h4 => iterate 130 with_reducible (first | done | exact find_hit | exact none_region | exact none_cond | exact none_block | exact none_goto | exact none_ret | exact none_skip | exact none_label (by decide) | refine find_right ?_ ?_ | refine none_seq ?_ ?_)
    case r0 =>
      intro a' w' h
      have h : SplitDone w bs a' w' := h
      unfold SplitDone at h
      obtain ⟨vw, n, out, u, rfl, hT, hn, HL⟩ := h
      have hTh := Lib.hid hT
      obtain ⟨ao, cap, rfl, _, _⟩ := slice_form' (HL.row 0 rfl)
      have hnh := Lib.hid hn
      clear hT hn
      by_cases h64 : (64 : Int) < n
      · have z2 : decide ((64 : Int) < (n : Int)) = true := by simpa using h64
        go_wp2
        simp only [exitFam]
        go_ret2
        rw [hsph.out, if_neg (by omega), ← hTh.out]
        simp only
        rw [if_pos (by have := hnh.out; omega)]
        exact ⟨_, rfl, (HL.pick []).row_nil 9 1⟩
      · have z2 : decide ((64 : Int) < (n : Int)) = false := by simpa using h64
        go_wp2
        simp only [exitFam]
        go_ret2
        rw [hsph.out, if_neg (by omega), ← hTh.out]
        simp only
        rw [if_neg (by have := hnh.out; omega), ← hnh.out]
        exact ⟨_, rfl, HL⟩
    case r1 =>
      intro a' w' h
      have h : SplitBetween w bs a' w' := h
      unfold SplitBetween at h
      obtain ⟨vw, n, i, out, u, rfl, hT, hn, hni, hi, HL⟩ := h
      have hnh := Lib.hid hn
      clear hn
      by_cases hlt : i = bs.length
      · subst hlt
        rw [List.drop_length, lex.run_between_nil] at hT
        have hTh := Lib.hid hT
        clear hT
        go_wp2
        go_step3
        exact And.intro (SplitDone.mk n out rfl hTh.out hnh.out HL) (by simp [SplitMu, intOf]; try omega)
      · have z2 : ((i : Int) == (bs.length : Int)) = false := by simp; omega
        obtain ⟨c, t, hd⟩ : ∃ c t, bs.drop i = c :: t := ⟨_, _, List.drop_eq_getElem_cons (show i < bs.length by omega)⟩
        have hc0 := text_at bs i (by rw [hsz]; omega) hd
        obtain ⟨hd1, hi1⟩ := drop_next hd
        have ken := fun w' => lex_ends bs i (by omega) hbl w'
        have ksg := fun w' => lex_sign c w'
        rw [hd, lex.run_between_cons] at hT
        rw [hd] at ken
        rw [← hd1] at hT
        by_cases h32 : c.toNat = 32
        · rw [if_pos h32] at hT
          have z3 : ((c.toNat : Int) == 32) = true := by simp; omega
          have hTh := Lib.hid hT
          clear hT hd hd1 ken ksg h32
          go_wp2
          go_step3
          exact And.intro (SplitBetween.mk (i := i + 1) n out rfl hTh.out hnh.out (by omega) (by omega) HL) (by simp [SplitMu, intOf]; try omega)
        · rw [if_neg h32] at hT
          have z3 : ((c.toNat : Int) == 32) = false := by simp; omega
          have hen : lex.ends (c :: t) = false := by simp [lex.ends, h32]
          rw [hen] at ken
          by_cases h34 : c.toNat = 34
          · rw [if_pos h34] at hT
            have z4 : ((c.toNat : Int) == 34) = true := by simp; omega
            have hTh := Lib.hid hT
            clear hT hd hd1 ken ksg h32 h34 hen
            have H2 : St (fun _ => False) w w' [Row 9 1 vw n (texts out), Row 5 1 (.slice none 0 0) 0 (bvs [])] := (HL.row_nil 5 1).pick [1, 0]
            go_wp2
            go_step3
            exact And.intro (SplitQuoted.mk (i := i + 1) n 0 out [] rfl hTh.out hnh.out rfl (by omega) (by omega) (by omega) H2) (by simp [SplitMu, intOf]; try omega)
          · rw [if_neg h34] at hT
            have z4 : ((c.toNat : Int) == 34) = false := by simp; omega
            obtain ⟨sg, hsg⟩ : ∃ sg, lex.sgn c = sg := ⟨_, rfl⟩
            rw [hsg] at hT ksg
            have hTh := Lib.hid hT
            clear hT hd hd1 h32 h34 hen hsg
            have H2 : St (fun _ => False) w w' [Row 9 1 vw n (texts out), Row 5 1 (.slice none 0 0) 0 (bvs [])] := (HL.row_nil 5 1).pick [1, 0]
            cases sg with
            | true =>
              have hT2 := hTh.out
              rw [if_pos rfl] at hT2
              have hT3 := Lib.hid hT2
              clear hT2 hTh
              unfold textV at ken
              go_wp2
              go_step3
              refine ‹∀ (a : Act) (w : World), Code.wp _ _ _ a w → _› _ _ ?_
              go_wp2_with (first
                | (go_at_call 49; go_must (refine (St.callSame' (ken _) H2).mono ?_; rintro e w' ⟨rfl, H2⟩))
                | (go_at_call 50; go_must (refine (St.callSame' (ksg _) H2).mono ?_; rintro e w' ⟨rfl, H2⟩))
                | (at_builtin; go_must (refine St.list_app (H2.skip _) 1 rfl rfl (.tmp 37) (.tmp 41) 75 rfl Try.underlying75 Try.info5 (by decide) rfl [.int .u8 c.toNat] rfl rfl (new_cells #[.int .u8 c.toNat] _) (by simp [Value.oneCell']) (by omega) (by omega) ?_; intro g5 cap5 w5 H5 hz5)))
              go_step3
              exact And.intro (SplitPlain.mk (i := i + 1) n (0 + 1) out [c] rfl hT3.out hnh.out rfl (by omega) (by omega) (by omega) H5) (by simp [SplitMu, intOf]; try omega)
            | false =>
              have hT2 := hTh.out
              rw [if_neg (by simp)] at hT2
              have hT3 := Lib.hid hT2
              clear hT2 hTh
              unfold textV at ken
              go_wp2
              go_step3
              refine ‹∀ (a : Act) (w : World), Code.wp _ _ _ a w → _› _ _ ?_
              go_wp2_with (first
                | (go_at_call 49; go_must (refine (St.callSame' (ken _) H2).mono ?_; rintro e w' ⟨rfl, H2⟩))
                | (go_at_call 50; go_must (refine (St.callSame' (ksg _) H2).mono ?_; rintro e w' ⟨rfl, H2⟩)))
              go_step3
              exact And.intro (SplitBad.mk rfl hT3.out.symm (H2.pick [])) (by simp [SplitMu, intOf]; try omega)
    case r2 =>
      intro a' w' h
      have h : SplitQuoted w bs a' w' := h
      unfold SplitQuoted at h
      obtain ⟨vw, vb, n, i, m, out, wd, u, rfl, hT, hn, hm, hni, hmi, hi, HL⟩ := h
      have hnh := Lib.hid hn
      have hmh := Lib.hid hm
      clear hn hm
      by_cases hlt : i = bs.length
      · subst hlt
        rw [List.drop_length, lex.run_quoted_nil] at hT
        have hTh := Lib.hid hT
        clear hT
        go_wp2
        go_step3
        exact And.intro (SplitBad.mk rfl hTh.out.symm (HL.pick [])) (by simp [SplitMu, intOf]; try omega)
      · have z2 : ((i : Int) == (bs.length : Int)) = false := by simp; omega
        obtain ⟨c, t, hd⟩ : ∃ c t, bs.drop i = c :: t := ⟨_, _, List.drop_eq_getElem_cons (show i < bs.length by omega)⟩
        have hc0 := text_at bs i (by rw [hsz]; omega) hd
        obtain ⟨hd1, hi1⟩ := drop_next hd
        have ken := fun w' => lex_ends bs (i + 1) (by omega) hbl w'
        unfold textV at ken
        rw [hd1] at ken
        rw [hd, lex.run_quoted_cons] at hT
        have hcl := u8_lt c
        by_cases h34 : c.toNat = 34
        · have z4 : ((c.toNat : Int) == 34) = true := by simp; omega
          have y1 : ((c.toNat : Int) == 92) = false := by simp; omega
          have y2 : decide ((c.toNat : Int) < 32) = false := by simp; omega
          have y3 : decide ((126 : Int) < (c.toNat : Int)) = false := by simp; omega
          have y4 : lex.esc c = true := by simp [lex.esc, h34]
          by_cases he : lex.ends t = true
          · rw [if_pos ⟨h34, he⟩, ← hd1] at hT
            rw [he] at ken
            have hTh := Lib.hid hT
            have hcv := own_text' (HL.row 1 rfl)
            clear hT he hd hd1 h34
            go_wp2_with (first | (go_at_call 49; go_must (refine (ken _).mono ?_; rintro e w2 ⟨rfl, rfl⟩)) | (at_builtin; go_must (refine St.list_app (HL.skip _) 0 rfl rfl (.tmp 67) (.tmp 70) 23 rfl Try.underlying23 Try.info9 (by decide) rfl [textV wd] rfl rfl (new_cells #[textV wd] _) (by simp [Value.oneCell', textV]) (by omega) (by omega) ?_; intro g5 cap5 w5 H5 hz5)))
            have H6 : St (fun _ => False) w w5 [Row 9 1 (.slice (some ⟨g5, 0, none⟩) (n + 1) cap5) (n + 1) (texts (out ++ [wd]))] := by rw [texts_snoc]; exact St.take (l1 := [_]) H5
            go_step3
            exact And.intro (SplitBetween.mk (i := i + 1) (n + 1) (out ++ [wd]) rfl hTh.out (by have := hnh.out; simp; omega) (by omega) (by omega) H6) (by simp [SplitMu, intOf]; try omega)
          · have he' : lex.ends t = false := by simpa using he
            rw [he'] at ken
            have hTn : lex.run .between [] bs = none := by
              rw [← hT, if_neg (fun h => he h.2)]
              cases t with
              | nil => rfl
              | cons d t' =>
                simp only
                rw [if_neg (fun h => by omega), if_neg (fun h => by rw [y4] at h; simp at h)]
            have hTh := Lib.hid hTn
            clear hT hTn he he' hd hd1 h34
            go_wp2_with (first | (go_at_call 49; go_must (refine (ken _).mono ?_; rintro e w2 ⟨rfl, rfl⟩)) | (go_at_call 51; go_must (refine (lex_escaped _ _).mono ?_; rintro e w2 ⟨rfl, rfl⟩)))
            go_step3
            exact And.intro (SplitBad.mk rfl hTh.out (HL.pick [])) (by simp [SplitMu, intOf]; try omega)
        · have z4 : ((c.toNat : Int) == 34) = false := by simp; omega
          rw [if_neg (fun h => h34 h.1)] at hT
          by_cases h92 : c.toNat = 92
          · have y1 : ((c.toNat : Int) == 92) = true := by simp; omega
            have y2 : decide ((c.toNat : Int) < 32) = false := by simp; omega
            have y3 : decide ((126 : Int) < (c.toNat : Int)) = false := by simp; omega
            have y4 : lex.esc c = true := by simp [lex.esc, h92]
            cases t with
            | nil =>
              have hil : i + 1 = bs.length := by
                have := congrArg List.length hd1
                simp at this
                omega
              have z5 : decide ((i : Int) + 1 < (bs.length : Int)) = false := by simp; omega
              have hTh := Lib.hid hT
              clear hT hd hd1 h34 h92 hil
              go_wp2_with (first | (go_at_call 49; go_must (refine (ken _).mono ?_; rintro e w2 ⟨rfl, rfl⟩)) | (go_at_call 51; go_must (refine (lex_escaped _ _).mono ?_; rintro e w2 ⟨rfl, rfl⟩)))
              go_step3
              exact And.intro (SplitBad.mk rfl hTh.out.symm (HL.pick [])) (by simp [SplitMu, intOf]; try omega)
            | cons d t' =>
              obtain ⟨hi2, hi3⟩ := drop_next hd1
              have hc1 := text_at bs (i + 1) (by rw [hsz]; omega) hd1
              have z5 : decide ((i : Int) + 1 < (bs.length : Int)) = true := by simp; omega
              simp only at hT
              by_cases hes : lex.esc d = true
              · rw [if_pos ⟨h92, hes⟩, ← hi2] at hT
                have hTh := Lib.hid hT
                clear hT hd hd1 h34 h92 hi2
                go_wp2_with (first | (go_at_call 49; go_must (refine (ken _).mono ?_; rintro e w2 ⟨rfl, rfl⟩)) | (go_at_call 51; go_must (refine (lex_escaped _ _).mono ?_; rintro e w2 ⟨rfl, rfl⟩)) | (at_builtin; go_must (refine St.list_app (HL.skip _) 1 rfl rfl (.tmp 103) (.tmp 105) 75 rfl Try.underlying75 Try.info5 (by decide) rfl [.int .u8 d.toNat] rfl rfl (new_cells #[.int .u8 d.toNat] _) (by simp [Value.oneCell']) (by omega) (by omega) ?_; intro g5 cap5 w5 H5 hz5)))
                have H6 : St (fun _ => False) w w5 [Row 9 1 vw n (texts out), Row 5 1 (.slice (some ⟨g5, 0, none⟩) (m + 1) cap5) (m + 1) (bvs (wd ++ [d]))] := by rw [bvs_snoc]; exact H5
                go_step3
                exact And.intro (SplitQuoted.mk (i := i + 1 + 1) n (m + 1) out (wd ++ [d]) rfl hTh.out hnh.out (by have := hmh.out; simp; omega) (by omega) (by omega) (by omega) H6) (by simp [SplitMu, intOf]; try omega)
              · have hes' : lex.esc d = false := by simpa using hes
                rw [if_neg (fun h => hes h.2), if_neg (fun h => by rw [y4] at h; simp at h)] at hT
                have hTh := Lib.hid hT
                clear hT hd hd1 h34 h92 hi2 hes
                go_wp2_with (first | (go_at_call 49; go_must (refine (ken _).mono ?_; rintro e w2 ⟨rfl, rfl⟩)) | (go_at_call 51; go_must (refine (lex_escaped _ _).mono ?_; rintro e w2 ⟨rfl, rfl⟩)))
                go_step3
                exact And.intro (SplitBad.mk rfl hTh.out.symm (HL.pick [])) (by simp [SplitMu, intOf]; try omega)
          · have y1 : ((c.toNat : Int) == 92) = false := by simp; omega
            have y4 : lex.esc c = false := by simp [lex.esc, h34, h92]
            by_cases hf : lex.fair c = true
            · have hfb := hf
              simp only [lex.fair, Bool.and_eq_true, decide_eq_true_eq] at hfb
              have y2 : decide ((c.toNat : Int) < 32) = false := by simp; omega
              have y3 : decide ((126 : Int) < (c.toNat : Int)) = false := by simp; omega
              have hTn : lex.run (.quoted (wd ++ [c])) out (bs.drop (i + 1)) = lex.run .between [] bs := by
                rw [← hT, hd1]
                cases t with
                | nil => simp only; rw [lex.run_quoted_nil]
                | cons d t' =>
                  simp only
                  rw [if_neg (fun h => h92 h.1), if_pos ⟨hf, y4⟩]
              have hTh := Lib.hid hTn
              clear hT hTn hd hd1 h34 h92 hf hfb
              go_wp2_with (first | (go_at_call 49; go_must (refine (ken _).mono ?_; rintro e w2 ⟨rfl, rfl⟩)) | (go_at_call 51; go_must (refine (lex_escaped _ _).mono ?_; rintro e w2 ⟨rfl, rfl⟩)) | (at_builtin; go_must (refine St.list_app (HL.skip _) 1 rfl rfl (.tmp 103) (.tmp 105) 75 rfl Try.underlying75 Try.info5 (by decide) rfl [.int .u8 c.toNat] rfl rfl (new_cells #[.int .u8 c.toNat] _) (by simp [Value.oneCell']) (by omega) (by omega) ?_; intro g5 cap5 w5 H5 hz5)))
              have H6 : St (fun _ => False) w w5 [Row 9 1 vw n (texts out), Row 5 1 (.slice (some ⟨g5, 0, none⟩) (m + 1) cap5) (m + 1) (bvs (wd ++ [c]))] := by rw [bvs_snoc]; exact H5
              go_step3
              exact And.intro (SplitQuoted.mk (i := i + 1) n (m + 1) out (wd ++ [c]) rfl hTh.out hnh.out (by have := hmh.out; simp; omega) (by omega) (by omega) (by omega) H6) (by simp [SplitMu, intOf]; try omega)
            · have hTn : lex.run .between [] bs = none := by
                rw [← hT]
                cases t with
                | nil => rfl
                | cons d t' =>
                  simp only
                  rw [if_neg (fun h => h92 h.1), if_neg (fun h => hf h.1)]
              have hTh := Lib.hid hTn
              have hfb : ¬ (32 ≤ c.toNat ∧ c.toNat ≤ 126) := by
                intro h
                simp [lex.fair, h.1, h.2] at hf
              clear hT hTn hd hd1 h34 h92 hf
              by_cases h32 : c.toNat < 32
              · have y2 : decide ((c.toNat : Int) < 32) = true := by simp; omega
                go_wp2_with (first | (go_at_call 49; go_must (refine (ken _).mono ?_; rintro e w2 ⟨rfl, rfl⟩)) | (go_at_call 51; go_must (refine (lex_escaped _ _).mono ?_; rintro e w2 ⟨rfl, rfl⟩)))
                go_step3
                exact And.intro (SplitBad.mk rfl hTh.out (HL.pick [])) (by simp [SplitMu, intOf]; try omega)
              · have y2 : decide ((c.toNat : Int) < 32) = false := by simp; omega
                have y3 : decide ((126 : Int) < (c.toNat : Int)) = true := by simp; omega
                go_wp2_with (first | (go_at_call 49; go_must (refine (ken _).mono ?_; rintro e w2 ⟨rfl, rfl⟩)) | (go_at_call 51; go_must (refine (lex_escaped _ _).mono ?_; rintro e w2 ⟨rfl, rfl⟩)))
                go_step3
                exact And.intro (SplitBad.mk rfl hTh.out (HL.pick [])) (by simp [SplitMu, intOf]; try omega)
    case r3 =>
      intro a' w' h
      have h : SplitBad w bs a' w' := h
      unfold SplitBad at h
      obtain ⟨u, rfl, hT, HL⟩ := h
      have hTh := Lib.hid hT
      clear hT
      go_wp2
      simp only [exitFam]
      go_ret2
      rw [hsph.out, if_neg (by omega), hTh.out]
      exact ⟨_, rfl, HL.row_nil 9 1⟩
    case r4 =>
      intro a' w' h
      have h : SplitPlain w bs a' w' := h
      unfold SplitPlain at h
      obtain ⟨vw, vb, n, i, m, out, wd, u, rfl, hT, hn, hm, hni, hmi, hi, HL⟩ := h
      have hnh := Lib.hid hn
      have hmh := Lib.hid hm
      clear hn hm
      have ken := fun w' => lex_ends bs i hi hbl w'
      unfold textV at ken
      by_cases he : lex.ends (bs.drop i) = true
      · rw [lex.run_plain_ends he] at hT
        rw [he] at ken
        have hTh := Lib.hid hT
        have hcv := own_text' (HL.row 1 rfl)
        clear hT he
        go_wp2_with (first | (go_at_call 49; go_must (refine (ken _).mono ?_; rintro e w2 ⟨rfl, rfl⟩)) | (at_builtin; go_must (refine St.list_app (HL.skip _) 0 rfl rfl (.tmp 45) (.tmp 48) 23 rfl Try.underlying23 Try.info9 (by decide) rfl [textV wd] rfl rfl (new_cells #[textV wd] _) (by simp [Value.oneCell', textV]) (by omega) (by omega) ?_; intro g5 cap5 w5 H5 hz5)))
        have H6 : St (fun _ => False) w w5 [Row 9 1 (.slice (some ⟨g5, 0, none⟩) (n + 1) cap5) (n + 1) (texts (out ++ [wd]))] := by rw [texts_snoc]; exact St.take (l1 := [_]) H5
        go_step3
        exact And.intro (SplitBetween.mk (i := i) (n + 1) (out ++ [wd]) rfl hTh.out (by have := hnh.out; simp; omega) (by omega) hi H6) (by simp [SplitMu, intOf]; try omega)
      · have he' : lex.ends (bs.drop i) = false := by simpa using he
        rw [he'] at ken
        obtain ⟨c, t, hd⟩ : ∃ c t, bs.drop i = c :: t := by
          rcases hcs : bs.drop i with _ | ⟨c, t⟩
          · rw [hcs] at he; exact absurd rfl he
          · exact ⟨c, t, rfl⟩
        have h32 : ¬ c.toNat = 32 := by
          intro h
          rw [hd] at he
          exact he (by simp [lex.ends, h])
        obtain ⟨hd1, hi1⟩ := drop_next hd
        have hc0 := text_at bs i (by rw [hsz]; omega) hd
        have ksg := fun w' => lex_sign c w'
        rw [hd, lex.run_plain_cons, if_neg h32, ← hd1] at hT
        obtain ⟨sg, hsg⟩ : ∃ sg, lex.sgn c = sg := ⟨_, rfl⟩
        rw [hsg] at hT ksg
        have hTh := Lib.hid hT
        clear hT hd hd1 h32 hsg he he'
        cases sg with
        | true =>
          have hT2 := hTh.out
          rw [if_pos rfl] at hT2
          have hT3 := Lib.hid hT2
          clear hT2 hTh
          go_wp2_with (first | (go_at_call 49; go_must (refine (ken _).mono ?_; rintro e w2 ⟨rfl, rfl⟩)) | (go_at_call 50; go_must (refine (ksg _).mono ?_; rintro e w2 ⟨rfl, rfl⟩)) | (at_builtin; go_must (refine St.list_app (HL.skip _) 1 rfl rfl (.tmp 37) (.tmp 41) 75 rfl Try.underlying75 Try.info5 (by decide) rfl [.int .u8 c.toNat] rfl rfl (new_cells #[.int .u8 c.toNat] _) (by simp [Value.oneCell']) (by omega) (by omega) ?_; intro g5 cap5 w5 H5 hz5)))
          have H6 : St (fun _ => False) w w5 [Row 9 1 vw n (texts out), Row 5 1 (.slice (some ⟨g5, 0, none⟩) (m + 1) cap5) (m + 1) (bvs (wd ++ [c]))] := by rw [bvs_snoc]; exact H5
          go_step3
          exact And.intro (SplitPlain.mk (i := i + 1) n (m + 1) out (wd ++ [c]) rfl hT3.out hnh.out (by have := hmh.out; simp; omega) (by omega) (by omega) (by omega) H6) (by simp [SplitMu, intOf]; try omega)
        | false =>
          have hT2 := hTh.out
          rw [if_neg (by simp)] at hT2
          have hT3 := Lib.hid hT2
          clear hT2 hTh
          go_wp2_with (first | (go_at_call 49; go_must (refine (ken _).mono ?_; rintro e w2 ⟨rfl, rfl⟩)) | (go_at_call 50; go_must (refine (ksg _).mono ?_; rintro e w2 ⟨rfl, rfl⟩)))
          go_step3
          exact And.intro (SplitBad.mk rfl hT3.out.symm (HL.pick [])) (by simp [SplitMu, intOf]; try omega)
    case first =>
      intro hpass
      go_wp2
      go_step3
      refine ‹∀ (a : Act) (w : World), Code.wp _ _ _ a w → _› _ _ ?_
      exact hpass _ _ (SplitBetween.mk (i := 0) 0 [] rfl rfl rfl (by omega) (by omega) H00)

end Go.Proofs.Ytoffcoegghigoaa
