/- Closed facts on the types of this seat. Written by facts.py. -/
import Derived.Test.YtoinimkmoojcoaaProg
import Derived.Test.YtoinimkmoojcoaaG2
import Derived.Laws.FloatArith
set_option maxRecDepth 100000
namespace Go.Proofs.Ytoinimkmoojcoaa
open Go Go.Dm
theorem c1 : Try.prog.cellsOf 1 = 1 := by kernel_rfl
theorem b1 : Try.prog.bytesOf 1 = 8 := by kernel_rfl
theorem z1 : zeroOf Try.prog 1 = some (.nilFunc) := by kernel_rfl
theorem c2 : Try.prog.cellsOf 2 = 1 := by kernel_rfl
theorem b2 : Try.prog.bytesOf 2 = 8 := by kernel_rfl
theorem z2 : zeroOf Try.prog 2 = some (.int .i64 0) := by kernel_rfl
theorem c3 : Try.prog.cellsOf 3 = 1 := by kernel_rfl
theorem b3 : Try.prog.bytesOf 3 = 8 := by kernel_rfl
theorem z3 : zeroOf Try.prog 3 = some (.int .i64 0) := by kernel_rfl
theorem c4 : Try.prog.cellsOf 4 = 1 := by kernel_rfl
theorem b4 : Try.prog.bytesOf 4 = 1 := by kernel_rfl
theorem z4 : zeroOf Try.prog 4 = some (.bool false) := by kernel_rfl
theorem c5 : Try.prog.cellsOf 5 = 1 := by kernel_rfl
theorem b5 : Try.prog.bytesOf 5 = 1 := by kernel_rfl
theorem z5 : zeroOf Try.prog 5 = some (.int .u8 0) := by kernel_rfl
theorem c7 : Try.prog.cellsOf 7 = 4 := by kernel_rfl
theorem b7 : Try.prog.bytesOf 7 = 24 := by kernel_rfl
theorem z7 : zeroOf Try.prog 7 = some (.agg #[.int .i64 0, .int .i64 0, .bool false, .int .u8 0]) := by kernel_rfl
theorem c9 : Try.prog.cellsOf 9 = 1 := by kernel_rfl
theorem b9 : Try.prog.bytesOf 9 = 16 := by kernel_rfl
theorem z9 : zeroOf Try.prog 9 = some (.string ⟨#[]⟩) := by kernel_rfl
theorem c12 : Try.prog.cellsOf 12 = 1 := by kernel_rfl
theorem b12 : Try.prog.bytesOf 12 = 8 := by kernel_rfl
theorem z12 : zeroOf Try.prog 12 = some (.int .u64 0) := by kernel_rfl
theorem c13 : Try.prog.cellsOf 13 = 2 := by kernel_rfl
theorem b13 : Try.prog.bytesOf 13 = 24 := by kernel_rfl
theorem z13 : zeroOf Try.prog 13 = some (.agg #[.string ⟨#[]⟩, .int .u64 0]) := by kernel_rfl
theorem c18 : Try.prog.cellsOf 18 = 1 := by kernel_rfl
theorem b18 : Try.prog.bytesOf 18 = 8 := by kernel_rfl
theorem z18 : zeroOf Try.prog 18 = some (.agg #[.pointer none]) := by kernel_rfl
theorem c21 : Try.prog.cellsOf 21 = 1 := by kernel_rfl
theorem b21 : Try.prog.bytesOf 21 = 4 := by kernel_rfl
theorem z21 : zeroOf Try.prog 21 = some (.int .i32 0) := by kernel_rfl
theorem c22 : Try.prog.cellsOf 22 = 1 := by kernel_rfl
theorem b22 : Try.prog.bytesOf 22 = 24 := by kernel_rfl
theorem z22 : zeroOf Try.prog 22 = some (.slice none 0 0) := by kernel_rfl
theorem c23 : Try.prog.cellsOf 23 = 3 := by kernel_rfl
theorem b23 : Try.prog.bytesOf 23 = 24 := by kernel_rfl
theorem z23 : zeroOf Try.prog 23 = some (.agg #[.int .i64 0, .int .i64 0, .int .i64 0]) := by kernel_rfl
theorem c24 : Try.prog.cellsOf 24 = 3 := by kernel_rfl
theorem b24 : Try.prog.bytesOf 24 = 24 := by kernel_rfl
theorem z24 : zeroOf Try.prog 24 = some (.agg #[.int .i64 0, .int .i64 0, .int .i64 0]) := by kernel_rfl
theorem c25 : Try.prog.cellsOf 25 = 3 := by kernel_rfl
theorem b25 : Try.prog.bytesOf 25 = 24 := by kernel_rfl
theorem z25 : zeroOf Try.prog 25 = some (.agg #[.int .i64 0, .int .i64 0, .int .i64 0]) := by kernel_rfl
theorem h25 : Try.prog.stoodInHeld 25 = false := by kernel_rfl
theorem g25 : Try.prog.eqGuardType Try.prog.depth 25 = false := by kernel_rfl
theorem c27 : Try.prog.cellsOf 27 = 1 := by kernel_rfl
theorem b27 : Try.prog.bytesOf 27 = 8 := by kernel_rfl
theorem z27 : zeroOf Try.prog 27 = some (.nilFunc) := by kernel_rfl
theorem c28 : Try.prog.cellsOf 28 = 1 := by kernel_rfl
theorem b28 : Try.prog.bytesOf 28 = 8 := by kernel_rfl
theorem z28 : zeroOf Try.prog 28 = some (.nilFunc) := by kernel_rfl
theorem c29 : Try.prog.cellsOf 29 = 1 := by kernel_rfl
theorem b29 : Try.prog.bytesOf 29 = 8 := by kernel_rfl
theorem z29 : zeroOf Try.prog 29 = some (.pointer none) := by kernel_rfl
theorem c30 : Try.prog.cellsOf 30 = 1 := by kernel_rfl
theorem b30 : Try.prog.bytesOf 30 = 8 := by kernel_rfl
theorem z30 : zeroOf Try.prog 30 = some (.int .i64 0) := by kernel_rfl
theorem c32 : Try.prog.cellsOf 32 = 1 := by kernel_rfl
theorem b32 : Try.prog.bytesOf 32 = 8 := by kernel_rfl
theorem z32 : zeroOf Try.prog 32 = some (.nilFunc) := by kernel_rfl
theorem c33 : Try.prog.cellsOf 33 = 1 := by kernel_rfl
theorem b33 : Try.prog.bytesOf 33 = 8 := by kernel_rfl
theorem z33 : zeroOf Try.prog 33 = some (.nilFunc) := by kernel_rfl
theorem c34 : Try.prog.cellsOf 34 = 1 := by kernel_rfl
theorem b34 : Try.prog.bytesOf 34 = 8 := by kernel_rfl
theorem z34 : zeroOf Try.prog 34 = some (.nilFunc) := by kernel_rfl
theorem c35 : Try.prog.cellsOf 35 = 3 := by kernel_rfl
theorem b35 : Try.prog.bytesOf 35 = 24 := by kernel_rfl
theorem z35 : zeroOf Try.prog 35 = some (.agg #[.int .i64 0, .int .i64 0, .int .i64 0]) := by kernel_rfl
theorem c36 : Try.prog.cellsOf 36 = 3 := by kernel_rfl
theorem b36 : Try.prog.bytesOf 36 = 24 := by kernel_rfl
theorem z36 : zeroOf Try.prog 36 = some (.agg #[.int .i64 0, .int .i64 0, .int .i64 0]) := by kernel_rfl
theorem h36 : Try.prog.stoodInHeld 36 = false := by kernel_rfl
theorem g36 : Try.prog.eqGuardType Try.prog.depth 36 = false := by kernel_rfl
theorem c37 : Try.prog.cellsOf 37 = 9 := by kernel_rfl
theorem b37 : Try.prog.bytesOf 37 = 72 := by kernel_rfl
theorem z37 : zeroOf Try.prog 37 = some (.agg #[.int .i64 0, .int .i64 0, .int .i64 0, .int .i64 0, .int .i64 0, .int .i64 0, .int .i64 0, .int .i64 0, .int .i64 0]) := by kernel_rfl
theorem c38 : Try.prog.cellsOf 38 = 9 := by kernel_rfl
theorem b38 : Try.prog.bytesOf 38 = 72 := by kernel_rfl
theorem z38 : zeroOf Try.prog 38 = some (.agg #[.int .i64 0, .int .i64 0, .int .i64 0, .int .i64 0, .int .i64 0, .int .i64 0, .int .i64 0, .int .i64 0, .int .i64 0]) := by kernel_rfl
theorem h38 : Try.prog.stoodInHeld 38 = false := by kernel_rfl
theorem g38 : Try.prog.eqGuardType Try.prog.depth 38 = false := by kernel_rfl
theorem c39 : Try.prog.cellsOf 39 = 1 := by kernel_rfl
theorem b39 : Try.prog.bytesOf 39 = 24 := by kernel_rfl
theorem z39 : zeroOf Try.prog 39 = some (.slice none 0 0) := by kernel_rfl
theorem c41 : Try.prog.cellsOf 41 = 1 := by kernel_rfl
theorem b41 : Try.prog.bytesOf 41 = 8 := by kernel_rfl
theorem z41 : zeroOf Try.prog 41 = some (.nilFunc) := by kernel_rfl
theorem c42 : Try.prog.cellsOf 42 = 1 := by kernel_rfl
theorem b42 : Try.prog.bytesOf 42 = 8 := by kernel_rfl
theorem z42 : zeroOf Try.prog 42 = some (.nilFunc) := by kernel_rfl
theorem c43 : Try.prog.cellsOf 43 = 1 := by kernel_rfl
theorem b43 : Try.prog.bytesOf 43 = 8 := by kernel_rfl
theorem z43 : zeroOf Try.prog 43 = some (.nilFunc) := by kernel_rfl
theorem c44 : Try.prog.cellsOf 44 = 1 := by kernel_rfl
theorem b44 : Try.prog.bytesOf 44 = 8 := by kernel_rfl
theorem z44 : zeroOf Try.prog 44 = some (.pointer none) := by kernel_rfl
theorem c45 : Try.prog.cellsOf 45 = 1 := by kernel_rfl
theorem b45 : Try.prog.bytesOf 45 = 8 := by kernel_rfl
theorem z45 : zeroOf Try.prog 45 = some (.nilFunc) := by kernel_rfl
theorem c46 : Try.prog.cellsOf 46 = 1 := by kernel_rfl
theorem b46 : Try.prog.bytesOf 46 = 8 := by kernel_rfl
theorem z46 : zeroOf Try.prog 46 = some (.nilFunc) := by kernel_rfl
theorem c47 : Try.prog.cellsOf 47 = 1 := by kernel_rfl
theorem b47 : Try.prog.bytesOf 47 = 8 := by kernel_rfl
theorem z47 : zeroOf Try.prog 47 = some (.nilFunc) := by kernel_rfl
theorem c48 : Try.prog.cellsOf 48 = 1 := by kernel_rfl
theorem b48 : Try.prog.bytesOf 48 = 8 := by kernel_rfl
theorem z48 : zeroOf Try.prog 48 = some (.nilFunc) := by kernel_rfl
theorem c49 : Try.prog.cellsOf 49 = 1 := by kernel_rfl
theorem b49 : Try.prog.bytesOf 49 = 8 := by kernel_rfl
theorem z49 : zeroOf Try.prog 49 = some (.nilFunc) := by kernel_rfl
theorem c50 : Try.prog.cellsOf 50 = 1 := by kernel_rfl
theorem b50 : Try.prog.bytesOf 50 = 8 := by kernel_rfl
theorem z50 : zeroOf Try.prog 50 = some (.nilFunc) := by kernel_rfl
theorem c51 : Try.prog.cellsOf 51 = 17 := by kernel_rfl
theorem b51 : Try.prog.bytesOf 51 = 160 := by kernel_rfl
theorem z51 : zeroOf Try.prog 51 = some (.agg #[.slice none 0 0, .int .i64 0, .int .i64 0, .int .i64 0, .int .i64 0, .int .i64 0, .slice none 0 0, .int .i64 0, .int .i64 0, .bool false, .bool false, .bool false, .bool false, .int .i64 0, .int .i64 0, .int .i64 0, .slice none 0 0]) := by kernel_rfl
theorem c52 : Try.prog.cellsOf 52 = 17 := by kernel_rfl
theorem b52 : Try.prog.bytesOf 52 = 160 := by kernel_rfl
theorem z52 : zeroOf Try.prog 52 = some (.agg #[.slice none 0 0, .int .i64 0, .int .i64 0, .int .i64 0, .int .i64 0, .int .i64 0, .slice none 0 0, .int .i64 0, .int .i64 0, .bool false, .bool false, .bool false, .bool false, .int .i64 0, .int .i64 0, .int .i64 0, .slice none 0 0]) := by kernel_rfl
theorem h52 : Try.prog.stoodInHeld 52 = false := by kernel_rfl
theorem g52 : Try.prog.eqGuardType Try.prog.depth 52 = false := by kernel_rfl
theorem c53 : Try.prog.cellsOf 53 = 6 := by kernel_rfl
theorem b53 : Try.prog.bytesOf 53 = 48 := by kernel_rfl
theorem z53 : zeroOf Try.prog 53 = some (.agg #[.int .i64 0, .int .i64 0, .int .i64 0, .int .i64 0, .int .i64 0, .int .i64 0]) := by kernel_rfl
theorem c55 : Try.prog.cellsOf 55 = 1 := by kernel_rfl
theorem b55 : Try.prog.bytesOf 55 = 8 := by kernel_rfl
theorem z55 : zeroOf Try.prog 55 = some (.nilFunc) := by kernel_rfl
theorem c56 : Try.prog.cellsOf 56 = 1 := by kernel_rfl
theorem b56 : Try.prog.bytesOf 56 = 8 := by kernel_rfl
theorem z56 : zeroOf Try.prog 56 = some (.nilFunc) := by kernel_rfl
theorem c57 : Try.prog.cellsOf 57 = 1 := by kernel_rfl
theorem b57 : Try.prog.bytesOf 57 = 24 := by kernel_rfl
theorem z57 : zeroOf Try.prog 57 = some (.slice none 0 0) := by kernel_rfl
theorem c58 : Try.prog.cellsOf 58 = 1 := by kernel_rfl
theorem b58 : Try.prog.bytesOf 58 = 8 := by kernel_rfl
theorem z58 : zeroOf Try.prog 58 = some (.nilFunc) := by kernel_rfl
theorem c60 : Try.prog.cellsOf 60 = 1 := by kernel_rfl
theorem b60 : Try.prog.bytesOf 60 = 8 := by kernel_rfl
theorem z60 : zeroOf Try.prog 60 = some (.nilFunc) := by kernel_rfl
theorem c61 : Try.prog.cellsOf 61 = 1 := by kernel_rfl
theorem b61 : Try.prog.bytesOf 61 = 8 := by kernel_rfl
theorem z61 : zeroOf Try.prog 61 = some (.nilFunc) := by kernel_rfl
theorem c62 : Try.prog.cellsOf 62 = 1 := by kernel_rfl
theorem b62 : Try.prog.bytesOf 62 = 8 := by kernel_rfl
theorem z62 : zeroOf Try.prog 62 = some (.nilFunc) := by kernel_rfl
theorem c63 : Try.prog.cellsOf 63 = 1 := by kernel_rfl
theorem b63 : Try.prog.bytesOf 63 = 2 := by kernel_rfl
theorem z63 : zeroOf Try.prog 63 = some (.int .i16 0) := by kernel_rfl
theorem c64 : Try.prog.cellsOf 64 = 3 := by kernel_rfl
theorem b64 : Try.prog.bytesOf 64 = 6 := by kernel_rfl
theorem z64 : zeroOf Try.prog 64 = some (.agg #[.int .i16 0, .int .i16 0, .int .i16 0]) := by kernel_rfl
theorem c65 : Try.prog.cellsOf 65 = 1 := by kernel_rfl
theorem b65 : Try.prog.bytesOf 65 = 24 := by kernel_rfl
theorem z65 : zeroOf Try.prog 65 = some (.slice none 0 0) := by kernel_rfl
theorem c66 : Try.prog.cellsOf 66 = 3 := by kernel_rfl
theorem b66 : Try.prog.bytesOf 66 = 24 := by kernel_rfl
theorem z66 : zeroOf Try.prog 66 = some (.agg #[.int .i64 0, .int .i64 0, .int .i64 0]) := by kernel_rfl
theorem h66 : Try.prog.stoodInHeld 66 = false := by kernel_rfl
theorem g66 : Try.prog.eqGuardType Try.prog.depth 66 = false := by kernel_rfl
theorem c67 : Try.prog.cellsOf 67 = 7 := by kernel_rfl
theorem b67 : Try.prog.bytesOf 67 = 56 := by kernel_rfl
theorem z67 : zeroOf Try.prog 67 = some (.agg #[.int .i16 0, .int .i16 0, .int .i16 0, .slice none 0 0, .int .i64 0, .int .i64 0, .int .i64 0]) := by kernel_rfl
theorem c68 : Try.prog.cellsOf 68 = 7 := by kernel_rfl
theorem b68 : Try.prog.bytesOf 68 = 56 := by kernel_rfl
theorem z68 : zeroOf Try.prog 68 = some (.agg #[.int .i16 0, .int .i16 0, .int .i16 0, .slice none 0 0, .int .i64 0, .int .i64 0, .int .i64 0]) := by kernel_rfl
theorem h68 : Try.prog.stoodInHeld 68 = false := by kernel_rfl
theorem g68 : Try.prog.eqGuardType Try.prog.depth 68 = false := by kernel_rfl
theorem c69 : Try.prog.cellsOf 69 = 1 := by kernel_rfl
theorem b69 : Try.prog.bytesOf 69 = 2 := by kernel_rfl
theorem z69 : zeroOf Try.prog 69 = some (.int .u16 0) := by kernel_rfl
theorem c71 : Try.prog.cellsOf 71 = 1 := by kernel_rfl
theorem b71 : Try.prog.bytesOf 71 = 8 := by kernel_rfl
theorem z71 : zeroOf Try.prog 71 = some (.nilFunc) := by kernel_rfl
theorem c72 : Try.prog.cellsOf 72 = 1 := by kernel_rfl
theorem b72 : Try.prog.bytesOf 72 = 8 := by kernel_rfl
theorem z72 : zeroOf Try.prog 72 = some (.nilFunc) := by kernel_rfl
theorem c73 : Try.prog.cellsOf 73 = 1 := by kernel_rfl
theorem b73 : Try.prog.bytesOf 73 = 8 := by kernel_rfl
theorem z73 : zeroOf Try.prog 73 = some (.nilFunc) := by kernel_rfl
theorem c74 : Try.prog.cellsOf 74 = 1 := by kernel_rfl
theorem b74 : Try.prog.bytesOf 74 = 8 := by kernel_rfl
theorem z74 : zeroOf Try.prog 74 = some (.nilFunc) := by kernel_rfl
theorem c75 : Try.prog.cellsOf 75 = 1 := by kernel_rfl
theorem b75 : Try.prog.bytesOf 75 = 8 := by kernel_rfl
theorem z75 : zeroOf Try.prog 75 = some (.nilFunc) := by kernel_rfl
theorem c76 : Try.prog.cellsOf 76 = 1 := by kernel_rfl
theorem b76 : Try.prog.bytesOf 76 = 8 := by kernel_rfl
theorem z76 : zeroOf Try.prog 76 = some (.nilFunc) := by kernel_rfl
theorem c77 : Try.prog.cellsOf 77 = 1 := by kernel_rfl
theorem b77 : Try.prog.bytesOf 77 = 8 := by kernel_rfl
theorem z77 : zeroOf Try.prog 77 = some (.nilFunc) := by kernel_rfl
theorem c78 : Try.prog.cellsOf 78 = 1 := by kernel_rfl
theorem b78 : Try.prog.bytesOf 78 = 8 := by kernel_rfl
theorem z78 : zeroOf Try.prog 78 = some (.nilFunc) := by kernel_rfl
theorem c79 : Try.prog.cellsOf 79 = 1 := by kernel_rfl
theorem b79 : Try.prog.bytesOf 79 = 8 := by kernel_rfl
theorem z79 : zeroOf Try.prog 79 = some (.nilFunc) := by kernel_rfl
theorem c80 : Try.prog.cellsOf 80 = 15 := by kernel_rfl
theorem b80 : Try.prog.bytesOf 80 = 152 := by kernel_rfl
theorem z80 : zeroOf Try.prog 80 = some (.agg #[.slice none 0 0, .int .i64 0, .int .i64 0, .int .i64 0, .int .i64 0, .int .i64 0, .slice none 0 0, .int .i64 0, .bool false, .bool false, .bool false, .slice none 0 0, .int .i64 0, .int .i64 0, .int .i64 0]) := by kernel_rfl
theorem c81 : Try.prog.cellsOf 81 = 15 := by kernel_rfl
theorem b81 : Try.prog.bytesOf 81 = 152 := by kernel_rfl
theorem z81 : zeroOf Try.prog 81 = some (.agg #[.slice none 0 0, .int .i64 0, .int .i64 0, .int .i64 0, .int .i64 0, .int .i64 0, .slice none 0 0, .int .i64 0, .bool false, .bool false, .bool false, .slice none 0 0, .int .i64 0, .int .i64 0, .int .i64 0]) := by kernel_rfl
theorem h81 : Try.prog.stoodInHeld 81 = false := by kernel_rfl
theorem g81 : Try.prog.eqGuardType Try.prog.depth 81 = false := by kernel_rfl
theorem c82 : Try.prog.cellsOf 82 = 1 := by kernel_rfl
theorem b82 : Try.prog.bytesOf 82 = 8 := by kernel_rfl
theorem z82 : zeroOf Try.prog 82 = some (.nilFunc) := by kernel_rfl
theorem c84 : Try.prog.cellsOf 84 = 1 := by kernel_rfl
theorem b84 : Try.prog.bytesOf 84 = 8 := by kernel_rfl
theorem z84 : zeroOf Try.prog 84 = some (.nilFunc) := by kernel_rfl
theorem c86 : Try.prog.cellsOf 86 = 1 := by kernel_rfl
theorem b86 : Try.prog.bytesOf 86 = 8 := by kernel_rfl
theorem z86 : zeroOf Try.prog 86 = some (.nilFunc) := by kernel_rfl
theorem c87 : Try.prog.cellsOf 87 = 1 := by kernel_rfl
theorem b87 : Try.prog.bytesOf 87 = 8 := by kernel_rfl
theorem z87 : zeroOf Try.prog 87 = some (.nilFunc) := by kernel_rfl
theorem c88 : Try.prog.cellsOf 88 = 1 := by kernel_rfl
theorem b88 : Try.prog.bytesOf 88 = 8 := by kernel_rfl
theorem z88 : zeroOf Try.prog 88 = some (.nilFunc) := by kernel_rfl
theorem c90 : Try.prog.cellsOf 90 = 1 := by kernel_rfl
theorem b90 : Try.prog.bytesOf 90 = 8 := by kernel_rfl
theorem z90 : zeroOf Try.prog 90 = some (.nilFunc) := by kernel_rfl
theorem c91 : Try.prog.cellsOf 91 = 1 := by kernel_rfl
theorem b91 : Try.prog.bytesOf 91 = 8 := by kernel_rfl
theorem z91 : zeroOf Try.prog 91 = some (.nilFunc) := by kernel_rfl
theorem c92 : Try.prog.cellsOf 92 = 1 := by kernel_rfl
theorem b92 : Try.prog.bytesOf 92 = 8 := by kernel_rfl
theorem z92 : zeroOf Try.prog 92 = some (.nilFunc) := by kernel_rfl
theorem c93 : Try.prog.cellsOf 93 = 1 := by kernel_rfl
theorem b93 : Try.prog.bytesOf 93 = 8 := by kernel_rfl
theorem z93 : zeroOf Try.prog 93 = some (.nilFunc) := by kernel_rfl
theorem c94 : Try.prog.cellsOf 94 = 1 := by kernel_rfl
theorem b94 : Try.prog.bytesOf 94 = 8 := by kernel_rfl
theorem z94 : zeroOf Try.prog 94 = some (.nilFunc) := by kernel_rfl
theorem c95 : Try.prog.cellsOf 95 = 1 := by kernel_rfl
theorem b95 : Try.prog.bytesOf 95 = 24 := by kernel_rfl
theorem z95 : zeroOf Try.prog 95 = some (.slice none 0 0) := by kernel_rfl
theorem c96 : Try.prog.cellsOf 96 = 1 := by kernel_rfl
theorem b96 : Try.prog.bytesOf 96 = 8 := by kernel_rfl
theorem z96 : zeroOf Try.prog 96 = some (.nilFunc) := by kernel_rfl
theorem c97 : Try.prog.cellsOf 97 = 1 := by kernel_rfl
theorem b97 : Try.prog.bytesOf 97 = 8 := by kernel_rfl
theorem z97 : zeroOf Try.prog 97 = some (.nilFunc) := by kernel_rfl
theorem c98 : Try.prog.cellsOf 98 = 1 := by kernel_rfl
theorem b98 : Try.prog.bytesOf 98 = 8 := by kernel_rfl
theorem z98 : zeroOf Try.prog 98 = some (.nilFunc) := by kernel_rfl
theorem c99 : Try.prog.cellsOf 99 = 1 := by kernel_rfl
theorem b99 : Try.prog.bytesOf 99 = 8 := by kernel_rfl
theorem z99 : zeroOf Try.prog 99 = some (.nilFunc) := by kernel_rfl
theorem c101 : Try.prog.cellsOf 101 = 1 := by kernel_rfl
theorem b101 : Try.prog.bytesOf 101 = 8 := by kernel_rfl
theorem z101 : zeroOf Try.prog 101 = some (.nilFunc) := by kernel_rfl
theorem c102 : Try.prog.cellsOf 102 = 1 := by kernel_rfl
theorem b102 : Try.prog.bytesOf 102 = 8 := by kernel_rfl
theorem z102 : zeroOf Try.prog 102 = some (.nilFunc) := by kernel_rfl
theorem c103 : Try.prog.cellsOf 103 = 4 := by kernel_rfl
theorem b103 : Try.prog.bytesOf 103 = 8 := by kernel_rfl
theorem z103 : zeroOf Try.prog 103 = some (.agg #[.int .i16 0, .int .i16 0, .int .i16 0, .int .i16 0]) := by kernel_rfl
theorem c104 : Try.prog.cellsOf 104 = 1 := by kernel_rfl
theorem b104 : Try.prog.bytesOf 104 = 8 := by kernel_rfl
theorem z104 : zeroOf Try.prog 104 = some (.nilFunc) := by kernel_rfl
theorem c105 : Try.prog.cellsOf 105 = 1 := by kernel_rfl
theorem b105 : Try.prog.bytesOf 105 = 8 := by kernel_rfl
theorem z105 : zeroOf Try.prog 105 = some (.nilFunc) := by kernel_rfl
theorem c106 : Try.prog.cellsOf 106 = 2 := by kernel_rfl
theorem b106 : Try.prog.bytesOf 106 = 16 := by kernel_rfl
theorem z106 : zeroOf Try.prog 106 = some (.agg #[.int .i64 0, .int .i64 0]) := by kernel_rfl
theorem c107 : Try.prog.cellsOf 107 = 2 := by kernel_rfl
theorem b107 : Try.prog.bytesOf 107 = 16 := by kernel_rfl
theorem z107 : zeroOf Try.prog 107 = some (.agg #[.int .i64 0, .int .i64 0]) := by kernel_rfl
theorem h107 : Try.prog.stoodInHeld 107 = false := by kernel_rfl
theorem g107 : Try.prog.eqGuardType Try.prog.depth 107 = false := by kernel_rfl
theorem c109 : Try.prog.cellsOf 109 = 1 := by kernel_rfl
theorem b109 : Try.prog.bytesOf 109 = 8 := by kernel_rfl
theorem z109 : zeroOf Try.prog 109 = some (.nilFunc) := by kernel_rfl
theorem c110 : Try.prog.cellsOf 110 = 1 := by kernel_rfl
theorem b110 : Try.prog.bytesOf 110 = 8 := by kernel_rfl
theorem z110 : zeroOf Try.prog 110 = some (.nilFunc) := by kernel_rfl
theorem c111 : Try.prog.cellsOf 111 = 1 := by kernel_rfl
theorem b111 : Try.prog.bytesOf 111 = 8 := by kernel_rfl
theorem z111 : zeroOf Try.prog 111 = some (.nilFunc) := by kernel_rfl
theorem c112 : Try.prog.cellsOf 112 = 1 := by kernel_rfl
theorem b112 : Try.prog.bytesOf 112 = 8 := by kernel_rfl
theorem z112 : zeroOf Try.prog 112 = some (.nilFunc) := by kernel_rfl
theorem c113 : Try.prog.cellsOf 113 = 1 := by kernel_rfl
theorem b113 : Try.prog.bytesOf 113 = 8 := by kernel_rfl
theorem z113 : zeroOf Try.prog 113 = some (.nilFunc) := by kernel_rfl
theorem c114 : Try.prog.cellsOf 114 = 1 := by kernel_rfl
theorem b114 : Try.prog.bytesOf 114 = 8 := by kernel_rfl
theorem z114 : zeroOf Try.prog 114 = some (.nilFunc) := by kernel_rfl
theorem c116 : Try.prog.cellsOf 116 = 1 := by kernel_rfl
theorem b116 : Try.prog.bytesOf 116 = 8 := by kernel_rfl
theorem z116 : zeroOf Try.prog 116 = some (.nilFunc) := by kernel_rfl
theorem c117 : Try.prog.cellsOf 117 = 1 := by kernel_rfl
theorem b117 : Try.prog.bytesOf 117 = 8 := by kernel_rfl
theorem z117 : zeroOf Try.prog 117 = some (.nilFunc) := by kernel_rfl
theorem c118 : Try.prog.cellsOf 118 = 1 := by kernel_rfl
theorem b118 : Try.prog.bytesOf 118 = 8 := by kernel_rfl
theorem z118 : zeroOf Try.prog 118 = some (.nilFunc) := by kernel_rfl
theorem c119 : Try.prog.cellsOf 119 = 1 := by kernel_rfl
theorem b119 : Try.prog.bytesOf 119 = 8 := by kernel_rfl
theorem z119 : zeroOf Try.prog 119 = some (.nilFunc) := by kernel_rfl
theorem c120 : Try.prog.cellsOf 120 = 1 := by kernel_rfl
theorem b120 : Try.prog.bytesOf 120 = 8 := by kernel_rfl
theorem z120 : zeroOf Try.prog 120 = some (.nilFunc) := by kernel_rfl
theorem c121 : Try.prog.cellsOf 121 = 4 := by kernel_rfl
theorem b121 : Try.prog.bytesOf 121 = 40 := by kernel_rfl
theorem z121 : zeroOf Try.prog 121 = some (.agg #[.pointer none, .pointer none, .pointer none, .string ⟨#[]⟩]) := by kernel_rfl
theorem c123 : Try.prog.cellsOf 123 = 0 := by kernel_rfl
theorem b123 : Try.prog.bytesOf 123 = 0 := by kernel_rfl
theorem z123 : zeroOf Try.prog 123 = some (.agg #[]) := by kernel_rfl
theorem c124 : Try.prog.cellsOf 124 = 0 := by kernel_rfl
theorem b124 : Try.prog.bytesOf 124 = 0 := by kernel_rfl
theorem z124 : zeroOf Try.prog 124 = some (.agg #[]) := by kernel_rfl
theorem c126 : Try.prog.cellsOf 126 = 1 := by kernel_rfl
theorem b126 : Try.prog.bytesOf 126 = 4 := by kernel_rfl
theorem z126 : zeroOf Try.prog 126 = some (.int .u32 0) := by kernel_rfl
theorem c129 : Try.prog.cellsOf 129 = 1 := by kernel_rfl
theorem b129 : Try.prog.bytesOf 129 = 8 := by kernel_rfl
theorem z129 : zeroOf Try.prog 129 = some (.nilFunc) := by kernel_rfl
theorem c130 : Try.prog.cellsOf 130 = 1 := by kernel_rfl
theorem b130 : Try.prog.bytesOf 130 = 8 := by kernel_rfl
theorem z130 : zeroOf Try.prog 130 = some (.pointer none) := by kernel_rfl
theorem c133 : Try.prog.cellsOf 133 = 11 := by kernel_rfl
theorem b133 : Try.prog.bytesOf 133 = 48 := by kernel_rfl
theorem z133 : zeroOf Try.prog 133 = some (.agg #[.int .u64 0, .int .u64 0, .int .u32 0, .int .u8 0, .int .u8 0, .int .u8 0, .int .u8 0, .nilFunc, .pointer none, .int .i32 0, .int .i32 0]) := by kernel_rfl
theorem mixed : Try.prog.follows .mixedOrders = true := by kernel_rfl
end Go.Proofs.Ytoinimkmoojcoaa
/- Closed facts on the fields of structs. Written by facts2.py. -/
set_option maxRecDepth 100000
set_option linter.unusedSimpArgs false
namespace Go.Proofs.Ytoinimkmoojcoaa
open Go Go.Dm
theorem fa25_0 (a : Addr) : fieldAddrA Try.prog 25 (some (.pointer (some a))) 0 = some (.pointer (some (aadd a 0))) := by simp [fieldAddrA, Try.underlying25, c2]
theorem fa25_1 (a : Addr) : fieldAddrA Try.prog 25 (some (.pointer (some a))) 1 = some (.pointer (some (aadd a 1))) := by simp [fieldAddrA, Try.underlying25, c2]
theorem fa25_2 (a : Addr) : fieldAddrA Try.prog 25 (some (.pointer (some a))) 2 = some (.pointer (some (aadd a 2))) := by simp [fieldAddrA, Try.underlying25, c2]
theorem fa36_0 (a : Addr) : fieldAddrA Try.prog 36 (some (.pointer (some a))) 0 = some (.pointer (some (aadd a 0))) := by simp [fieldAddrA, Try.underlying36, c2]
theorem fa36_1 (a : Addr) : fieldAddrA Try.prog 36 (some (.pointer (some a))) 1 = some (.pointer (some (aadd a 1))) := by simp [fieldAddrA, Try.underlying36, c2]
theorem fa36_2 (a : Addr) : fieldAddrA Try.prog 36 (some (.pointer (some a))) 2 = some (.pointer (some (aadd a 2))) := by simp [fieldAddrA, Try.underlying36, c2]
theorem fa38_0 (a : Addr) : fieldAddrA Try.prog 38 (some (.pointer (some a))) 0 = some (.pointer (some (aadd a 0))) := by simp [fieldAddrA, Try.underlying38, c36]
theorem fa38_1 (a : Addr) : fieldAddrA Try.prog 38 (some (.pointer (some a))) 1 = some (.pointer (some (aadd a 3))) := by simp [fieldAddrA, Try.underlying38, c36]
theorem fa38_2 (a : Addr) : fieldAddrA Try.prog 38 (some (.pointer (some a))) 2 = some (.pointer (some (aadd a 6))) := by simp [fieldAddrA, Try.underlying38, c2]
theorem fa38_3 (a : Addr) : fieldAddrA Try.prog 38 (some (.pointer (some a))) 3 = some (.pointer (some (aadd a 7))) := by simp [fieldAddrA, Try.underlying38, c3]
theorem fa38_4 (a : Addr) : fieldAddrA Try.prog 38 (some (.pointer (some a))) 4 = some (.pointer (some (aadd a 8))) := by simp [fieldAddrA, Try.underlying38, c3]
theorem fa107_0 (a : Addr) : fieldAddrA Try.prog 107 (some (.pointer (some a))) 0 = some (.pointer (some (aadd a 0))) := by simp [fieldAddrA, Try.underlying107, c2]
theorem fa107_1 (a : Addr) : fieldAddrA Try.prog 107 (some (.pointer (some a))) 1 = some (.pointer (some (aadd a 1))) := by simp [fieldAddrA, Try.underlying107, c2]
theorem fa81_0 (a : Addr) : fieldAddrA Try.prog 81 (some (.pointer (some a))) 0 = some (.pointer (some (aadd a 0))) := by simp [fieldAddrA, Try.underlying81, c22]
theorem fa81_1 (a : Addr) : fieldAddrA Try.prog 81 (some (.pointer (some a))) 1 = some (.pointer (some (aadd a 1))) := by simp [fieldAddrA, Try.underlying81, c25]
theorem fa81_2 (a : Addr) : fieldAddrA Try.prog 81 (some (.pointer (some a))) 2 = some (.pointer (some (aadd a 4))) := by simp [fieldAddrA, Try.underlying81, c3]
theorem fa81_3 (a : Addr) : fieldAddrA Try.prog 81 (some (.pointer (some a))) 3 = some (.pointer (some (aadd a 5))) := by simp [fieldAddrA, Try.underlying81, c2]
theorem fa81_4 (a : Addr) : fieldAddrA Try.prog 81 (some (.pointer (some a))) 4 = some (.pointer (some (aadd a 6))) := by simp [fieldAddrA, Try.underlying81, c39]
theorem fa81_5 (a : Addr) : fieldAddrA Try.prog 81 (some (.pointer (some a))) 5 = some (.pointer (some (aadd a 7))) := by simp [fieldAddrA, Try.underlying81, c3]
theorem fa81_6 (a : Addr) : fieldAddrA Try.prog 81 (some (.pointer (some a))) 6 = some (.pointer (some (aadd a 8))) := by simp [fieldAddrA, Try.underlying81, c4]
theorem fa81_7 (a : Addr) : fieldAddrA Try.prog 81 (some (.pointer (some a))) 7 = some (.pointer (some (aadd a 9))) := by simp [fieldAddrA, Try.underlying81, c4]
theorem fa81_8 (a : Addr) : fieldAddrA Try.prog 81 (some (.pointer (some a))) 8 = some (.pointer (some (aadd a 10))) := by simp [fieldAddrA, Try.underlying81, c4]
theorem fa81_9 (a : Addr) : fieldAddrA Try.prog 81 (some (.pointer (some a))) 9 = some (.pointer (some (aadd a 11))) := by simp [fieldAddrA, Try.underlying81, c22]
theorem fa81_10 (a : Addr) : fieldAddrA Try.prog 81 (some (.pointer (some a))) 10 = some (.pointer (some (aadd a 12))) := by simp [fieldAddrA, Try.underlying81, c36]
theorem fa52_0 (a : Addr) : fieldAddrA Try.prog 52 (some (.pointer (some a))) 0 = some (.pointer (some (aadd a 0))) := by simp [fieldAddrA, Try.underlying52, c22]
theorem fa52_1 (a : Addr) : fieldAddrA Try.prog 52 (some (.pointer (some a))) 1 = some (.pointer (some (aadd a 1))) := by simp [fieldAddrA, Try.underlying52, c25]
theorem fa52_2 (a : Addr) : fieldAddrA Try.prog 52 (some (.pointer (some a))) 2 = some (.pointer (some (aadd a 4))) := by simp [fieldAddrA, Try.underlying52, c3]
theorem fa52_3 (a : Addr) : fieldAddrA Try.prog 52 (some (.pointer (some a))) 3 = some (.pointer (some (aadd a 5))) := by simp [fieldAddrA, Try.underlying52, c2]
theorem fa52_4 (a : Addr) : fieldAddrA Try.prog 52 (some (.pointer (some a))) 4 = some (.pointer (some (aadd a 6))) := by simp [fieldAddrA, Try.underlying52, c39]
theorem fa52_5 (a : Addr) : fieldAddrA Try.prog 52 (some (.pointer (some a))) 5 = some (.pointer (some (aadd a 7))) := by simp [fieldAddrA, Try.underlying52, c2]
theorem fa52_6 (a : Addr) : fieldAddrA Try.prog 52 (some (.pointer (some a))) 6 = some (.pointer (some (aadd a 8))) := by simp [fieldAddrA, Try.underlying52, c2]
theorem fa52_7 (a : Addr) : fieldAddrA Try.prog 52 (some (.pointer (some a))) 7 = some (.pointer (some (aadd a 9))) := by simp [fieldAddrA, Try.underlying52, c4]
theorem fa52_8 (a : Addr) : fieldAddrA Try.prog 52 (some (.pointer (some a))) 8 = some (.pointer (some (aadd a 10))) := by simp [fieldAddrA, Try.underlying52, c4]
theorem fa52_9 (a : Addr) : fieldAddrA Try.prog 52 (some (.pointer (some a))) 9 = some (.pointer (some (aadd a 11))) := by simp [fieldAddrA, Try.underlying52, c4]
theorem fa52_10 (a : Addr) : fieldAddrA Try.prog 52 (some (.pointer (some a))) 10 = some (.pointer (some (aadd a 12))) := by simp [fieldAddrA, Try.underlying52, c4]
theorem fa52_11 (a : Addr) : fieldAddrA Try.prog 52 (some (.pointer (some a))) 11 = some (.pointer (some (aadd a 13))) := by simp [fieldAddrA, Try.underlying52, c36]
theorem fa52_12 (a : Addr) : fieldAddrA Try.prog 52 (some (.pointer (some a))) 12 = some (.pointer (some (aadd a 16))) := by simp [fieldAddrA, Try.underlying52, c22]
end Go.Proofs.Ytoinimkmoojcoaa
/- Closed facts on literals of structs and slices. Written by facts3.py. -/
set_option maxRecDepth 100000
set_option linter.unusedSimpArgs false
set_option linter.unusedVariables false
namespace Go.Proofs.Ytoinimkmoojcoaa
open Go Go.Dm
theorem bu107_z  : buildV Try.prog 107 (some []) = some (.agg #[.int .i64 0, .int .i64 0]) := by kernel_rfl
theorem bu107_0_1 (x1 : Int) (x2 : Int) : buildV Try.prog 107 (some [(0, .int .i64 x1), (1, .int .i64 x2)]) = some (.agg #[.int .i64 x1, .int .i64 x2]) := by kernel_rfl
theorem bu25_0_1_2 (x1 : Int) (x2 : Int) (x3 : Int) : buildV Try.prog 25 (some [(0, .int .i64 x1), (1, .int .i64 x2), (2, .int .i64 x3)]) = some (.agg #[.int .i64 x1, .int .i64 x2, .int .i64 x3]) := by kernel_rfl
theorem bu36_z  : buildV Try.prog 36 (some []) = some (.agg #[.int .i64 0, .int .i64 0, .int .i64 0]) := by kernel_rfl
theorem bu36_0_1 (x1 : Int) (x2 : Int) : buildV Try.prog 36 (some [(0, .int .i64 x1), (1, .int .i64 x2)]) = some (.agg #[.int .i64 x1, .int .i64 x2, .int .i64 0]) := by kernel_rfl
theorem bu36_0_1_2 (x1 : Int) (x2 : Int) (x3 : Int) : buildV Try.prog 36 (some [(0, .int .i64 x1), (1, .int .i64 x2), (2, .int .i64 x3)]) = some (.agg #[.int .i64 x1, .int .i64 x2, .int .i64 x3]) := by kernel_rfl
theorem bu36_0 (x1 : Int) : buildV Try.prog 36 (some [(0, .int .i64 x1)]) = some (.agg #[.int .i64 x1, .int .i64 0, .int .i64 0]) := by kernel_rfl
theorem bu38_z  : buildV Try.prog 38 (some []) = some (.agg #[.int .i64 0, .int .i64 0, .int .i64 0, .int .i64 0, .int .i64 0, .int .i64 0, .int .i64 0, .int .i64 0, .int .i64 0]) := by kernel_rfl
theorem bu38_0_1_2_3_4 (x1 : Int) (x2 : Int) (x3 : Int) (x4 : Int) (x5 : Int) (x6 : Int) (x7 : Int) (x8 : Int) (x9 : Int) : buildV Try.prog 38 (some [(0, .agg #[.int .i64 x1, .int .i64 x2, .int .i64 x3]), (1, .agg #[.int .i64 x4, .int .i64 x5, .int .i64 x6]), (2, .int .i64 x7), (3, .int .i64 x8), (4, .int .i64 x9)]) = some (.agg #[.int .i64 x1, .int .i64 x2, .int .i64 x3, .int .i64 x4, .int .i64 x5, .int .i64 x6, .int .i64 x7, .int .i64 x8, .int .i64 x9]) := by kernel_rfl
theorem bu38_0_1_3 (x1 : Int) (x2 : Int) (x3 : Int) (x4 : Int) (x5 : Int) (x6 : Int) (x7 : Int) : buildV Try.prog 38 (some [(0, .agg #[.int .i64 x1, .int .i64 x2, .int .i64 x3]), (1, .agg #[.int .i64 x4, .int .i64 x5, .int .i64 x6]), (3, .int .i64 x7)]) = some (.agg #[.int .i64 x1, .int .i64 x2, .int .i64 x3, .int .i64 x4, .int .i64 x5, .int .i64 x6, .int .i64 0, .int .i64 x7, .int .i64 0]) := by kernel_rfl
theorem bu38_0_1_3_4 (x1 : Int) (x2 : Int) (x3 : Int) (x4 : Int) (x5 : Int) (x6 : Int) (x7 : Int) (x8 : Int) : buildV Try.prog 38 (some [(0, .agg #[.int .i64 x1, .int .i64 x2, .int .i64 x3]), (1, .agg #[.int .i64 x4, .int .i64 x5, .int .i64 x6]), (3, .int .i64 x7), (4, .int .i64 x8)]) = some (.agg #[.int .i64 x1, .int .i64 x2, .int .i64 x3, .int .i64 x4, .int .i64 x5, .int .i64 x6, .int .i64 0, .int .i64 x7, .int .i64 x8]) := by kernel_rfl
theorem bu38_1_2 (x1 : Int) (x2 : Int) (x3 : Int) (x4 : Int) : buildV Try.prog 38 (some [(1, .agg #[.int .i64 x1, .int .i64 x2, .int .i64 x3]), (2, .int .i64 x4)]) = some (.agg #[.int .i64 0, .int .i64 0, .int .i64 0, .int .i64 x1, .int .i64 x2, .int .i64 x3, .int .i64 x4, .int .i64 0, .int .i64 0]) := by kernel_rfl
theorem bu38_1_2_3 (x1 : Int) (x2 : Int) (x3 : Int) (x4 : Int) (x5 : Int) : buildV Try.prog 38 (some [(1, .agg #[.int .i64 x1, .int .i64 x2, .int .i64 x3]), (2, .int .i64 x4), (3, .int .i64 x5)]) = some (.agg #[.int .i64 0, .int .i64 0, .int .i64 0, .int .i64 x1, .int .i64 x2, .int .i64 x3, .int .i64 x4, .int .i64 x5, .int .i64 0]) := by kernel_rfl
theorem bu52_0_1_10 (x1 : Option Addr) (x1n x1c : Nat) (x2 : Int) (x3 : Int) (x4 : Int) (x5 : Bool) : buildV Try.prog 52 (some [(0, .slice x1 x1n x1c), (1, .agg #[.int .i64 x2, .int .i64 x3, .int .i64 x4]), (10, .bool x5)]) = some (.agg #[.slice x1 x1n x1c, .int .i64 x2, .int .i64 x3, .int .i64 x4, .int .i64 0, .int .i64 0, .slice none 0 0, .int .i64 0, .int .i64 0, .bool false, .bool false, .bool false, .bool x5, .int .i64 0, .int .i64 0, .int .i64 0, .slice none 0 0]) := by kernel_rfl
theorem bu81_0_1 (x1 : Option Addr) (x1n x1c : Nat) (x2 : Int) (x3 : Int) (x4 : Int) : buildV Try.prog 81 (some [(0, .slice x1 x1n x1c), (1, .agg #[.int .i64 x2, .int .i64 x3, .int .i64 x4])]) = some (.agg #[.slice x1 x1n x1c, .int .i64 x2, .int .i64 x3, .int .i64 x4, .int .i64 0, .int .i64 0, .slice none 0 0, .int .i64 0, .bool false, .bool false, .bool false, .slice none 0 0, .int .i64 0, .int .i64 0, .int .i64 0]) := by kernel_rfl
theorem bs22_0_z  (L : Nat) : buildSliceV Try.prog 22 0 (some []) L = some (.slice (some ⟨L, 0, none⟩) 0 1, ⟨[], 38, 0, true⟩) := by kernel_rfl
theorem bs22_1_0 (x1 : Int) (x2 : Int) (x3 : Int) (x4 : Int) (x5 : Int) (x6 : Int) (x7 : Int) (x8 : Int) (x9 : Int) (L : Nat) : buildSliceV Try.prog 22 1 (some [(0, .agg #[.int .i64 x1, .int .i64 x2, .int .i64 x3, .int .i64 x4, .int .i64 x5, .int .i64 x6, .int .i64 x7, .int .i64 x8, .int .i64 x9])]) L = some (.slice (some ⟨L, 0, none⟩) 1 1, ⟨[.int .i64 x1, .int .i64 x2, .int .i64 x3, .int .i64 x4, .int .i64 x5, .int .i64 x6, .int .i64 x7, .int .i64 x8, .int .i64 x9], 38, 0, true⟩) := by kernel_rfl
theorem bs22_2_0_1 (x1 : Int) (x2 : Int) (x3 : Int) (x4 : Int) (x5 : Int) (x6 : Int) (x7 : Int) (x8 : Int) (x9 : Int) (x10 : Int) (x11 : Int) (x12 : Int) (x13 : Int) (x14 : Int) (x15 : Int) (x16 : Int) (x17 : Int) (x18 : Int) (L : Nat) : buildSliceV Try.prog 22 2 (some [(0, .agg #[.int .i64 x1, .int .i64 x2, .int .i64 x3, .int .i64 x4, .int .i64 x5, .int .i64 x6, .int .i64 x7, .int .i64 x8, .int .i64 x9]), (1, .agg #[.int .i64 x10, .int .i64 x11, .int .i64 x12, .int .i64 x13, .int .i64 x14, .int .i64 x15, .int .i64 x16, .int .i64 x17, .int .i64 x18])]) L = some (.slice (some ⟨L, 0, none⟩) 2 1, ⟨[.int .i64 x1, .int .i64 x2, .int .i64 x3, .int .i64 x4, .int .i64 x5, .int .i64 x6, .int .i64 x7, .int .i64 x8, .int .i64 x9, .int .i64 x10, .int .i64 x11, .int .i64 x12, .int .i64 x13, .int .i64 x14, .int .i64 x15, .int .i64 x16, .int .i64 x17, .int .i64 x18], 38, 0, true⟩) := by kernel_rfl
theorem bs39_1_0 (x1 : Int) (L : Nat) : buildSliceV Try.prog 39 1 (some [(0, .int .i64 x1)]) L = some (.slice (some ⟨L, 0, none⟩) 1 1, ⟨[.int .i64 x1], 2, 0, true⟩) := by kernel_rfl
theorem bs39_7_0_1_2_3_4_5_6 (x1 : Int) (x2 : Int) (x3 : Int) (x4 : Int) (x5 : Int) (x6 : Int) (x7 : Int) (L : Nat) : buildSliceV Try.prog 39 7 (some [(0, .int .i64 x1), (1, .int .i64 x2), (2, .int .i64 x3), (3, .int .i64 x4), (4, .int .i64 x5), (5, .int .i64 x6), (6, .int .i64 x7)]) L = some (.slice (some ⟨L, 0, none⟩) 7 1, ⟨[.int .i64 x1, .int .i64 x2, .int .i64 x3, .int .i64 x4, .int .i64 x5, .int .i64 x6, .int .i64 x7], 2, 0, true⟩) := by kernel_rfl
theorem bs95_4_0_1_2_3 (x1 : Int) (x2 : Int) (x3 : Int) (x4 : Int) (x5 : Int) (x6 : Int) (x7 : Int) (x8 : Int) (x9 : Int) (x10 : Int) (x11 : Int) (x12 : Int) (L : Nat) : buildSliceV Try.prog 95 4 (some [(0, .agg #[.int .i64 x1, .int .i64 x2, .int .i64 x3]), (1, .agg #[.int .i64 x4, .int .i64 x5, .int .i64 x6]), (2, .agg #[.int .i64 x7, .int .i64 x8, .int .i64 x9]), (3, .agg #[.int .i64 x10, .int .i64 x11, .int .i64 x12])]) L = some (.slice (some ⟨L, 0, none⟩) 4 1, ⟨[.int .i64 x1, .int .i64 x2, .int .i64 x3, .int .i64 x4, .int .i64 x5, .int .i64 x6, .int .i64 x7, .int .i64 x8, .int .i64 x9, .int .i64 x10, .int .i64 x11, .int .i64 x12], 36, 0, true⟩) := by kernel_rfl
end Go.Proofs.Ytoinimkmoojcoaa
/- Closed facts on comparisons of structs. Written by facts4.py. -/
set_option maxRecDepth 100000
set_option linter.unusedSimpArgs false
set_option linter.unusedVariables false
namespace Go.Proofs.Ytoinimkmoojcoaa
open Go Go.Dm
theorem eql107 (x0 x1 y0 y1 : Int) : fastBin Try.prog .eql 107 (.agg #[.int .i64 x0, .int .i64 x1]) (.agg #[.int .i64 y0, .int .i64 y1]) = some (.bool (decide (x0 = y0 ∧ x1 = y1))) := by
  have e : fastBin Try.prog .eql 107 (.agg #[.int .i64 x0, .int .i64 x1]) (.agg #[.int .i64 y0, .int .i64 y1]) = some (.bool (((x0 == y0) && ((x1 == y1) && true)))) := by kernel_rfl
  rw [e]; congr 2; rw [Bool.eq_iff_iff]; simp [and_assoc, or_assoc]
theorem neq107 (x0 x1 y0 y1 : Int) : fastBin Try.prog .neq 107 (.agg #[.int .i64 x0, .int .i64 x1]) (.agg #[.int .i64 y0, .int .i64 y1]) = some (.bool (decide (¬(x0 = y0 ∧ x1 = y1)))) := by
  have e : fastBin Try.prog .neq 107 (.agg #[.int .i64 x0, .int .i64 x1]) (.agg #[.int .i64 y0, .int .i64 y1]) = some (.bool (!((x0 == y0) && ((x1 == y1) && true)))) := by kernel_rfl
  rw [e]; congr 2; rw [Bool.eq_iff_iff]; simp [and_assoc, or_assoc]
theorem eql36 (x0 x1 x2 y0 y1 y2 : Int) : fastBin Try.prog .eql 36 (.agg #[.int .i64 x0, .int .i64 x1, .int .i64 x2]) (.agg #[.int .i64 y0, .int .i64 y1, .int .i64 y2]) = some (.bool (decide (x0 = y0 ∧ x1 = y1 ∧ x2 = y2))) := by
  have e : fastBin Try.prog .eql 36 (.agg #[.int .i64 x0, .int .i64 x1, .int .i64 x2]) (.agg #[.int .i64 y0, .int .i64 y1, .int .i64 y2]) = some (.bool (((x0 == y0) && ((x1 == y1) && ((x2 == y2) && true))))) := by kernel_rfl
  rw [e]; congr 2; rw [Bool.eq_iff_iff]; simp [and_assoc, or_assoc]
theorem neq36 (x0 x1 x2 y0 y1 y2 : Int) : fastBin Try.prog .neq 36 (.agg #[.int .i64 x0, .int .i64 x1, .int .i64 x2]) (.agg #[.int .i64 y0, .int .i64 y1, .int .i64 y2]) = some (.bool (decide (¬(x0 = y0 ∧ x1 = y1 ∧ x2 = y2)))) := by
  have e : fastBin Try.prog .neq 36 (.agg #[.int .i64 x0, .int .i64 x1, .int .i64 x2]) (.agg #[.int .i64 y0, .int .i64 y1, .int .i64 y2]) = some (.bool (!((x0 == y0) && ((x1 == y1) && ((x2 == y2) && true))))) := by kernel_rfl
  rw [e]; congr 2; rw [Bool.eq_iff_iff]; simp [and_assoc, or_assoc]
theorem eql38 (x0 x1 x2 x3 x4 x5 x6 x7 x8 y0 y1 y2 y3 y4 y5 y6 y7 y8 : Int) : fastBin Try.prog .eql 38 (.agg #[.int .i64 x0, .int .i64 x1, .int .i64 x2, .int .i64 x3, .int .i64 x4, .int .i64 x5, .int .i64 x6, .int .i64 x7, .int .i64 x8]) (.agg #[.int .i64 y0, .int .i64 y1, .int .i64 y2, .int .i64 y3, .int .i64 y4, .int .i64 y5, .int .i64 y6, .int .i64 y7, .int .i64 y8]) = some (.bool (decide (x0 = y0 ∧ x1 = y1 ∧ x2 = y2 ∧ x3 = y3 ∧ x4 = y4 ∧ x5 = y5 ∧ x6 = y6 ∧ x7 = y7 ∧ x8 = y8))) := by
  have e : fastBin Try.prog .eql 38 (.agg #[.int .i64 x0, .int .i64 x1, .int .i64 x2, .int .i64 x3, .int .i64 x4, .int .i64 x5, .int .i64 x6, .int .i64 x7, .int .i64 x8]) (.agg #[.int .i64 y0, .int .i64 y1, .int .i64 y2, .int .i64 y3, .int .i64 y4, .int .i64 y5, .int .i64 y6, .int .i64 y7, .int .i64 y8]) = some (.bool ((((x0 == y0) && ((x1 == y1) && ((x2 == y2) && true))) && (((x3 == y3) && ((x4 == y4) && ((x5 == y5) && true))) && ((x6 == y6) && ((x7 == y7) && ((x8 == y8) && true))))))) := by kernel_rfl
  rw [e]; congr 2; rw [Bool.eq_iff_iff]; simp [and_assoc, or_assoc]
theorem neq38 (x0 x1 x2 x3 x4 x5 x6 x7 x8 y0 y1 y2 y3 y4 y5 y6 y7 y8 : Int) : fastBin Try.prog .neq 38 (.agg #[.int .i64 x0, .int .i64 x1, .int .i64 x2, .int .i64 x3, .int .i64 x4, .int .i64 x5, .int .i64 x6, .int .i64 x7, .int .i64 x8]) (.agg #[.int .i64 y0, .int .i64 y1, .int .i64 y2, .int .i64 y3, .int .i64 y4, .int .i64 y5, .int .i64 y6, .int .i64 y7, .int .i64 y8]) = some (.bool (decide (¬(x0 = y0 ∧ x1 = y1 ∧ x2 = y2 ∧ x3 = y3 ∧ x4 = y4 ∧ x5 = y5 ∧ x6 = y6 ∧ x7 = y7 ∧ x8 = y8)))) := by
  have e : fastBin Try.prog .neq 38 (.agg #[.int .i64 x0, .int .i64 x1, .int .i64 x2, .int .i64 x3, .int .i64 x4, .int .i64 x5, .int .i64 x6, .int .i64 x7, .int .i64 x8]) (.agg #[.int .i64 y0, .int .i64 y1, .int .i64 y2, .int .i64 y3, .int .i64 y4, .int .i64 y5, .int .i64 y6, .int .i64 y7, .int .i64 y8]) = some (.bool (!(((x0 == y0) && ((x1 == y1) && ((x2 == y2) && true))) && (((x3 == y3) && ((x4 == y4) && ((x5 == y5) && true))) && ((x6 == y6) && ((x7 == y7) && ((x8 == y8) && true))))))) := by kernel_rfl
  rw [e]; congr 2; rw [Bool.eq_iff_iff]; simp [and_assoc, or_assoc]
theorem eql25 (x0 x1 x2 y0 y1 y2 : Int) : fastBin Try.prog .eql 25 (.agg #[.int .i64 x0, .int .i64 x1, .int .i64 x2]) (.agg #[.int .i64 y0, .int .i64 y1, .int .i64 y2]) = some (.bool (decide (x0 = y0 ∧ x1 = y1 ∧ x2 = y2))) := by
  have e : fastBin Try.prog .eql 25 (.agg #[.int .i64 x0, .int .i64 x1, .int .i64 x2]) (.agg #[.int .i64 y0, .int .i64 y1, .int .i64 y2]) = some (.bool (((x0 == y0) && ((x1 == y1) && ((x2 == y2) && true))))) := by kernel_rfl
  rw [e]; congr 2; rw [Bool.eq_iff_iff]; simp [and_assoc, or_assoc]
theorem neq25 (x0 x1 x2 y0 y1 y2 : Int) : fastBin Try.prog .neq 25 (.agg #[.int .i64 x0, .int .i64 x1, .int .i64 x2]) (.agg #[.int .i64 y0, .int .i64 y1, .int .i64 y2]) = some (.bool (decide (¬(x0 = y0 ∧ x1 = y1 ∧ x2 = y2)))) := by
  have e : fastBin Try.prog .neq 25 (.agg #[.int .i64 x0, .int .i64 x1, .int .i64 x2]) (.agg #[.int .i64 y0, .int .i64 y1, .int .i64 y2]) = some (.bool (!((x0 == y0) && ((x1 == y1) && ((x2 == y2) && true))))) := by kernel_rfl
  rw [e]; congr 2; rw [Bool.eq_iff_iff]; simp [and_assoc, or_assoc]
end Go.Proofs.Ytoinimkmoojcoaa
/- Plain functions: what the profile's functions compute, with no program in sight. -/
namespace Go.Proofs.Ytoinimkmoojcoaa
def withinB (n lo hi : Int) : Bool := decide (lo ≤ n) && decide (n ≤ hi)
def fadM (j a : Int) : Int := if a ≤ j then 0 else ((a - 1) / j) * a - (j * ((a - 1) / j) * ((a - 1) / j + 1)) / 2
def safeM (S A j v a : Int) : Bool := withinB v 0 S && withinB a (-A) A && (if a > 0 then decide (v + fadM j a ≤ S) else decide (0 ≤ v - fadM j (-a)))
/-- The least number that passes, by halving. -/
def bis (p : Int → Bool) : Nat → Int → Int → Int
  | 0, lo, _ => lo
  | k + 1, lo, hi => if lo < hi then (if p ((lo + hi) / 2) then bis p k lo ((lo + hi) / 2) else bis p k ((lo + hi) / 2 + 1) hi) else lo
/-- The greatest number that passes, by halving. -/
def bisUp (p : Int → Bool) : Nat → Int → Int → Int
  | 0, lo, _ => lo
  | k + 1, lo, hi => if lo < hi then (if p (lo + (hi - lo + 1) / 2) then bisUp p k (lo + (hi - lo + 1) / 2) hi else bisUp p k lo (lo + (hi - lo + 1) / 2 - 1)) else lo
def brakeM (A j v a : Int) : Int := bis (fun b => decide (0 ≤ v + b - fadM j (-b))) 20 (max (-A) (a - j)) (min A (a + j))
def distL (A j : Int) : Nat → Int → Int → Int
  | 0, _, _ => 0
  | k + 1, v, a => if v = 0 ∧ a = 0 then 0 else (v + brakeM A j v a) + distL A j k (v + brakeM A j v a) (brakeM A j v a)
def distM (A j v a : Int) : Int := distL A j 400000 v a
def fitsM (S A j v rest b : Int) : Bool := decide (v + b ≤ rest) && safeM S A j (v + b) b && decide (distM A j (v + b) b ≤ rest - (v + b))
def nextM (S A j v a rest : Int) : Option Int :=
  let lo := max (brakeM A j v a) (1 - v)
  let hi := min (min A (a + j)) (rest - v)
  if hi < lo then none else if fitsM S A j v rest lo then some (bisUp (fitsM S A j v rest) 20 lo hi) else none
def fastL (S A j : Int) : Nat → Int → Int → Int → Option (List Int)
  | 0, _, _, rest => if 0 < rest then none else some []
  | k + 1, v, a, rest => if 0 < rest then (nextM S A j v a rest).bind fun b => (fastL S A j k (v + b) b (rest - (v + b))).map ((v + b) :: ·) else some []
def smL (S A j : Int) : List Int → Int → Int → Bool
  | [], _, _ => true
  | x :: r, v, a => withinB x 0 S && withinB (x - v) (-A) A && withinB (x - v - a) (-j) j && smL S A j r x (x - v)
def validM (S A j : Int) : Bool := withinB S 1 100000 && withinB A 1 100000 && withinB j 2 100000
def smoothM (S A j : Int) (l : List Int) : Bool := validM S A j && smL S A j (l ++ [0, 0]) 0 0
def simpleM (S A j : Int) : Int := min (min S A) (j / 2)
/-- The list and the number of the error. -/
def ticksM (S A j n : Int) : Int × Int :=
  if validM S A j = false ∨ n < 0 then (0, 1) else if 1000000000000 < n then (0, 3) else ((n + simpleM S A j - 1) / simpleM S A j, 0)
def fbL (u : Int) : Nat → Int → List Int
  | 0, _ => []
  | k + 1, rest => if 0 < rest then ((rest - 1) % u + 1) :: fbL u k (rest - ((rest - 1) % u + 1)) else []
def fastM (S A j n most : Int) : Option (List Int) :=
  if 5000 < most ∨ 100 < S / A + A / j then none else (fastL S A j most.toNat 0 0 n).bind fun l => if smoothM S A j l then some l else none
def stepsM (S A j n : Int) : List Int × Int :=
  let t := ticksM S A j n
  if t.2 ≠ 0 then ([], t.2) else if 100000 < t.1 then ([], 3) else match fastM S A j n t.1 with
    | some l => (l, 0)
    | none => (fbL (simpleM S A j) t.1.toNat n, 0)
def movingM (S A j before last : Int) : Bool := validM S A j && withinB before 0 S && withinB last 0 S && safeM S A j last (last - before)
def neededM (S A j before last : Int) : Int × Int := if movingM S A j before last then (distM A j last (last - before), 0) else (0, 1)
def stopL (A j : Int) : Nat → Int → Int → List Int
  | 0, _, _ => []
  | k + 1, v, a => if v = 0 ∧ a = 0 then [] else
    let b := brakeM A j v a
    (if 0 < v + b then [v + b] else []) ++ stopL A j k (v + b) b
def stopM (S A j before last : Int) : List Int × Int := if movingM S A j before last then (stopL A j 400000 last (last - before), 0) else ([], 1)
def posM (x y part len : Int) : Int := x + (2 * (y - x) * part + len) / (2 * len)

/-! ### Fading -/
theorem fad_small {j a : Int} (h : a ≤ j) : fadM j a = 0 := by simp [fadM, h]
/-- The sum j + 2 j + .. + n j, halved. -/
theorem tri_even (j n : Int) : ∃ t, j * n * (n + 1) = 2 * t := by
  have : ∃ s, n * (n + 1) = 2 * s := by
    rcases Int.emod_two_eq n with h | h
    · exact ⟨n / 2 * (n + 1), by have : n = 2 * (n / 2) := by omega
                                 rw [← Int.mul_assoc, ← this]⟩
    · exact ⟨n * ((n + 1) / 2), by have : n + 1 = 2 * ((n + 1) / 2) := by omega
                                   rw [← Int.mul_assoc, Int.mul_comm 2 n, Int.mul_assoc, ← this]⟩
  obtain ⟨s, hs⟩ := this
  exact ⟨j * s, by rw [Int.mul_assoc, hs, ← Int.mul_assoc, Int.mul_comm j 2, Int.mul_assoc]⟩
theorem fad_step {j a : Int} (hj : 0 < j) (h : j < a) : fadM j a = (a - j) + fadM j (a - j) := by
  have hd : (a - 1 - j) / j = (a - 1) / j - 1 := by
    rw [show a - 1 - j = a - 1 + (-1) * j by omega, Int.add_mul_ediv_right _ _ (by omega)]; rfl
  have hn : 1 ≤ (a - 1) / j := by
    have : (a - 1 - j) / j ≥ 0 := Int.ediv_nonneg (by omega) (by omega)
    omega
  unfold fadM
  rw [if_neg (by omega)]
  split
  · rename_i h2
    have h1 : (a - 1) / j = 1 := by
      have : (a - 1 - j) / j < 1 := Int.ediv_lt_of_lt_mul hj (by omega)
      omega
    rw [h1]; omega
  · rw [show a - j - 1 = a - 1 - j by omega, hd]
    generalize (a - 1) / j = n at hn
    obtain ⟨t, ht⟩ := tri_even j n
    obtain ⟨s, hs⟩ := tri_even j (n - 1)
    rw [ht, hs, Int.mul_ediv_cancel_left _ (by omega), Int.mul_ediv_cancel_left _ (by omega)]
    have e1 : j * n * (n + 1) = j * (n - 1) * (n - 1 + 1) + 2 * (j * n) := by
      have a1 : j * n * (n + 1) = (j * n) * n + j * n := by rw [Int.mul_add, Int.mul_one]
      have a2 : j * (n - 1) * (n - 1 + 1) = (j * n) * n - j * n := by rw [Int.sub_add_cancel, Int.mul_sub, Int.mul_one, Int.sub_mul]
      omega
    have e2 : (n - 1) * (a - j) = n * a - j * n - a + j := by rw [Int.sub_mul, Int.one_mul, Int.mul_sub, Int.mul_comm n j]; omega
    rw [e2]
    omega
theorem fad_nonneg {j : Int} (hj : 0 < j) (a : Int) : 0 ≤ fadM j a := by
  have key : ∀ k : Nat, ∀ a : Int, a.toNat ≤ k → 0 ≤ fadM j a := by
    intro k
    induction k with
    | zero => intro a h; rw [fad_small (by omega)]; omega
    | succ k ih =>
      intro a h
      by_cases h2 : a ≤ j
      · rw [fad_small h2]; omega
      · rw [fad_step hj (by omega)]; have := ih (a - j) (by omega); omega
  exact key a.toNat a (Nat.le_refl _)
theorem fad_mono {j : Int} (hj : 0 < j) {a b : Int} (hab : a ≤ b) : fadM j a ≤ fadM j b := by
  have key : ∀ k : Nat, ∀ a b : Int, b.toNat ≤ k → a ≤ b → fadM j a ≤ fadM j b := by
    intro k
    induction k with
    | zero => intro a b h hab; rw [fad_small (a := a) (by omega), fad_small (by omega)]; omega
    | succ k ih =>
      intro a b h hab
      by_cases h2 : a ≤ j
      · rw [fad_small h2]; exact fad_nonneg hj b
      · rw [fad_step hj (by omega), fad_step (a := b) hj (by omega)]; have := ih (a - j) (b - j) (by omega) (by omega); omega
  exact key b.toNat a b (Nat.le_refl _) hab
theorem fad_le {j : Int} (hj : 0 < j) (a : Int) : fadM j a ≤ a.toNat * a.toNat := by
  have key : ∀ k : Nat, ∀ a : Int, a.toNat ≤ k → fadM j a ≤ a.toNat * a.toNat := by
    intro k
    induction k with
    | zero => intro a h; rw [fad_small (by omega)]; exact Int.mul_nonneg (by omega) (by omega)
    | succ k ih =>
      intro a h
      by_cases h2 : a ≤ j
      · rw [fad_small h2]; exact Int.mul_nonneg (by omega) (by omega)
      · rw [fad_step hj (by omega)]
        have h3 := ih (a - j) (by omega)
        have e1 : ((a - j).toNat : Int) = a - j := by omega
        have e2 : (a.toNat : Int) = a := by omega
        rw [e1] at h3; rw [e2]
        have e3 : a * a = (a - j) * (a - j) + j * (a - j) + j * a := by
          rw [← Int.add_mul, Int.mul_comm j a, Int.sub_add_cancel, ← Int.mul_add, Int.sub_add_cancel]
        have e4 : 0 ≤ j * (a - j) := Int.mul_nonneg (by omega) (by omega)
        have e5 : 1 * a ≤ j * a := Int.mul_le_mul_of_nonneg_right (by omega) (by omega)
        omega
  exact key a.toNat a (Nat.le_refl _)
theorem fad_bound {j a : Int} (hj : 0 < j) (ha : a ≤ 100000) : fadM j a ≤ 10000000000 := by
  have h1 := fad_le hj a
  have h2 : (a.toNat : Int) * a.toNat ≤ 100000 * 100000 := Int.mul_le_mul (by omega) (by omega) (by omega) (by omega)
  omega
/-! ### Halving -/
theorem bis_range {p : Int → Bool} : ∀ (k : Nat) (lo hi : Int), lo ≤ hi → lo ≤ bis p k lo hi ∧ bis p k lo hi ≤ hi := by
  intro k
  induction k with
  | zero => intro lo hi h; exact ⟨Int.le_refl _, h⟩
  | succ k ih =>
    intro lo hi h
    unfold bis
    split
    · split
      · have := ih lo ((lo + hi) / 2) (by omega); omega
      · have := ih ((lo + hi) / 2 + 1) hi (by omega); omega
    · omega
theorem bis_spec {p : Int → Bool} : ∀ (k : Nat) (lo hi : Int), lo ≤ hi → hi - lo < 2 ^ k → p hi = true → p (bis p k lo hi) = true ∧ (lo < bis p k lo hi → p (bis p k lo hi - 1) = false) := by
  intro k
  induction k with
  | zero => intro lo hi h1 h2 h3; have : lo = hi := by simp at h2; omega
            subst this; exact ⟨h3, fun h => absurd h (by simp [bis])⟩
  | succ k ih =>
    intro lo hi h1 h2 h3
    rw [Int.pow_succ] at h2
    unfold bis
    split
    · split
      · rename_i hp; exact ih lo _ (by omega) (by omega) hp
      · rename_i hp
        have hp' : p ((lo + hi) / 2) = false := by simpa using hp
        obtain ⟨a1, a2⟩ := ih ((lo + hi) / 2 + 1) hi (by omega) (by omega) h3
        refine ⟨a1, fun hlt => ?_⟩
        by_cases hc : (lo + hi) / 2 + 1 < bis p k ((lo + hi) / 2 + 1) hi
        · exact a2 hc
        · have := (bis_range (p := p) k ((lo + hi) / 2 + 1) hi (by omega)).1
          rw [show bis p k ((lo + hi) / 2 + 1) hi - 1 = (lo + hi) / 2 by omega]; exact hp'
    · have : lo = hi := by omega
      subst this; exact ⟨h3, fun h => absurd h (by omega)⟩
theorem bisUp_range {p : Int → Bool} : ∀ (k : Nat) (lo hi : Int), lo ≤ hi → lo ≤ bisUp p k lo hi ∧ bisUp p k lo hi ≤ hi := by
  intro k
  induction k with
  | zero => intro lo hi h; exact ⟨Int.le_refl _, h⟩
  | succ k ih =>
    intro lo hi h
    unfold bisUp
    split
    · split
      · have := ih (lo + (hi - lo + 1) / 2) hi (by omega); omega
      · have := ih lo (lo + (hi - lo + 1) / 2 - 1) (by omega); omega
    · omega
theorem bisUp_pass {p : Int → Bool} : ∀ (k : Nat) (lo hi : Int), p lo = true → p (bisUp p k lo hi) = true := by
  intro k
  induction k with
  | zero => intro lo hi h; exact h
  | succ k ih =>
    intro lo hi h
    unfold bisUp
    split
    · split
      · rename_i hp; exact ih _ _ hp
      · exact ih _ _ h
    · exact h
/-! ### Braking -/
theorem within_iff {n lo hi : Int} : withinB n lo hi = true ↔ lo ≤ n ∧ n ≤ hi := by simp [withinB]
theorem valid_iff {S A j : Int} : validM S A j = true ↔ (1 ≤ S ∧ S ≤ 100000) ∧ (1 ≤ A ∧ A ≤ 100000) ∧ (2 ≤ j ∧ j ≤ 100000) := by simp [validM, within_iff, and_assoc]
theorem safe_iff {S A j v a : Int} : safeM S A j v a = true ↔ 0 ≤ v ∧ v ≤ S ∧ -A ≤ a ∧ a ≤ A ∧ (0 < a → v + fadM j a ≤ S) ∧ (a ≤ 0 → fadM j (-a) ≤ v) := by
  unfold safeM
  by_cases h : a > 0
  · simp [within_iff, h, and_assoc]; intros; omega
  · simp only [Bool.and_eq_true, within_iff, if_neg h, decide_eq_true_eq]
    constructor
    · rintro ⟨⟨⟨h1, h2⟩, h3, h4⟩, h5⟩; exact ⟨h1, h2, h3, h4, fun h6 => absurd h6 h, fun _ => by omega⟩
    · rintro ⟨h1, h2, h3, h4, _, h5⟩; have := h5 (by omega); exact ⟨⟨⟨h1, h2⟩, h3, h4⟩, by omega⟩
structure Braked (S A j v a b : Int) : Prop where
  lo : max (-A) (a - j) ≤ b
  hi : b ≤ min A (a + j)
  safe : safeM S A j (v + b) b = true
  less : v = 0 ∧ a = 0 ∨ 2 * ((v + b) + fadM j (max b 0)) + max b 0 + (if b < 0 then 1 else 0) < 2 * (v + fadM j (max a 0)) + max a 0 + (if a < 0 then 1 else 0)
theorem brake_ok {S A j v a : Int} (hv : validM S A j = true) (hs : safeM S A j v a = true) : Braked S A j v a (brakeM A j v a) := by
  rw [valid_iff] at hv
  rw [safe_iff] at hs
  obtain ⟨⟨S1, S2⟩, ⟨A1, A2⟩, J1, J2⟩ := hv
  obtain ⟨v1, v2, a1, a2, sp, sn⟩ := hs
  have hj : 0 < j := by omega
  have hle : max (-A) (a - j) ≤ min A (a + j) := by omega
  have hhi : (decide (0 ≤ v + (min A (a + j)) - fadM j (-(min A (a + j))))) = true := by
    simp only [decide_eq_true_eq]
    by_cases h : 0 ≤ a + j
    · rw [fad_small (by omega)]; omega
    · have h1 := sn (by omega)
      rw [fad_step hj (by omega)] at h1
      have h2 : min A (a + j) = a + j := by omega
      rw [h2, show -(a + j) = -a - j by omega]
      omega
  have h20 : min A (a + j) - max (-A) (a - j) < 2 ^ 20 := by
    show _ < (1048576 : Int); omega
  obtain ⟨b1, b2⟩ := bis_spec (p := fun b => decide (0 ≤ v + b - fadM j (-b))) 20 _ _ hle h20 hhi
  obtain ⟨r1, r2⟩ := bis_range (p := fun b => decide (0 ≤ v + b - fadM j (-b))) 20 _ _ hle
  change max (-A) (a - j) ≤ brakeM A j v a at r1
  change brakeM A j v a ≤ min A (a + j) at r2
  change decide (0 ≤ v + brakeM A j v a - fadM j (-brakeM A j v a)) = true at b1
  change max (-A) (a - j) < brakeM A j v a → decide (0 ≤ v + (brakeM A j v a - 1) - fadM j (-(brakeM A j v a - 1))) = false at b2
  generalize brakeM A j v a = b at *
  simp only [decide_eq_true_eq, decide_eq_false_iff_not] at b1 b2
  have hpos : 0 < b → b = a - j := by
    intro hb
    by_cases hc : max (-A) (a - j) < b
    · exfalso; apply b2 hc; rw [fad_small (by omega)]; omega
    · omega
  have hfn := fad_nonneg hj (-b)
  have hfb := fad_nonneg hj b
  have hstep : 0 < b → fadM j a = b + fadM j b := by
    intro hb
    have h1 := hpos hb
    have h2 := fad_step hj (a := a) (by omega)
    rw [h1]; exact h2
  refine ⟨r1, r2, ?_, ?_⟩
  · rw [safe_iff]
    refine ⟨by omega, ?_, by omega, by omega, ?_, fun _ => by omega⟩
    · by_cases hb : 0 < b
      · have h1 := hpos hb; have h2 := hstep hb; have h3 := sp (by omega); omega
      · omega
    · intro hb
      have h1 := hpos hb; have h2 := hstep hb; have h3 := sp (by omega); omega
  · by_cases hb : 0 < b
    · right
      have h1 := hpos hb; have h2 := hstep hb
      rw [show max b 0 = b by omega, show max a 0 = a by omega, if_neg (by omega), if_neg (by omega)]
      omega
    · rw [show max b 0 = 0 by omega, fad_small (a := 0) (by omega)]
      have hfa := fad_nonneg hj (max a 0)
      by_cases ha : 0 < a
      · right
        rw [if_neg (c := a < 0) (by omega)]
        split <;> omega
      · rw [show max a 0 = 0 by omega, fad_small (a := 0) (by omega)]
        by_cases hb0 : b < 0
        · right; rw [if_pos hb0]; split <;> omega
        · have hbz : b = 0 := by omega
          subst hbz
          by_cases haz : a < 0
          · right; rw [if_pos haz, if_neg (by omega)]; omega
          · left
            have h3 := b2 (by omega)
            rw [fad_small (by omega)] at h3
            omega
/-- How long braking can take. -/
def mB (j v a : Int) : Nat := (2 * (v + fadM j (max a 0)) + max a 0 + (if a < 0 then 1 else 0)).toNat
theorem mB_le {S A j v a : Int} (hv : validM S A j = true) (hs : safeM S A j v a = true) : mB j v a ≤ 300001 := by
  rw [valid_iff] at hv
  rw [safe_iff] at hs
  unfold mB
  by_cases ha : 0 < a
  · have := hs.2.2.2.2.1 ha
    rw [show max a 0 = a by omega, if_neg (by omega)]; omega
  · rw [show max a 0 = 0 by omega, fad_small (a := 0) (by omega)]; split <;> omega
theorem mB_less {S A j v a : Int} (hv : validM S A j = true) (hs : safeM S A j v a = true) (h0 : ¬(v = 0 ∧ a = 0)) : mB j (v + brakeM A j v a) (brakeM A j v a) < mB j v a := by
  obtain ⟨_, _, h1, h2⟩ := brake_ok hv hs
  have h3 := h2.resolve_left h0
  unfold mB
  rw [valid_iff] at hv
  rw [safe_iff] at h1
  have := fad_nonneg (j := j) (by omega) (max (brakeM A j v a) 0)
  have : 0 ≤ (if brakeM A j v a < 0 then (1 : Int) else 0) := by split <;> omega
  omega
theorem distL_enough {S A j : Int} (hv : validM S A j = true) : ∀ (m k1 k2 : Nat) (v a : Int), safeM S A j v a = true → mB j v a ≤ m → m < k1 → m < k2 → distL A j k1 v a = distL A j k2 v a := by
  intro m
  induction m with
  | zero =>
    intro k1 k2 v a hs hm h1 h2
    obtain ⟨k1, rfl⟩ : ∃ k, k1 = k + 1 := ⟨k1 - 1, by omega⟩
    obtain ⟨k2, rfl⟩ : ∃ k, k2 = k + 1 := ⟨k2 - 1, by omega⟩
    unfold distL
    by_cases h0 : v = 0 ∧ a = 0
    · rw [if_pos h0, if_pos h0]
    · have := mB_less hv hs h0; omega
  | succ m ih =>
    intro k1 k2 v a hs hm h1 h2
    obtain ⟨k1, rfl⟩ : ∃ k, k1 = k + 1 := ⟨k1 - 1, by omega⟩
    obtain ⟨k2, rfl⟩ : ∃ k, k2 = k + 1 := ⟨k2 - 1, by omega⟩
    unfold distL
    by_cases h0 : v = 0 ∧ a = 0
    · rw [if_pos h0, if_pos h0]
    · have := mB_less hv hs h0
      rw [if_neg h0, if_neg h0, ih k1 k2 _ _ (brake_ok hv hs).safe (by omega) (by omega) (by omega)]
theorem distM_step {S A j v a : Int} (hv : validM S A j = true) (hs : safeM S A j v a = true) : distM A j v a = if v = 0 ∧ a = 0 then 0 else (v + brakeM A j v a) + distM A j (v + brakeM A j v a) (brakeM A j v a) := by
  have h1 := mB_le hv hs
  show distL A j (399999 + 1) v a = _
  conv => lhs; unfold distL
  by_cases h0 : v = 0 ∧ a = 0
  · rw [if_pos h0, if_pos h0]
  · have := mB_less hv hs h0
    rw [if_neg h0, if_neg h0]
    rw [distL_enough hv 300000 399999 400000 _ _ (brake_ok hv hs).safe (by omega) (by omega) (by omega)]
    rfl
theorem distL_bound {S A j : Int} (hv : validM S A j = true) : ∀ (k : Nat) (v a : Int), safeM S A j v a = true → 0 ≤ distL A j k v a ∧ distL A j k v a ≤ 100000 * k := by
  intro k
  induction k with
  | zero => intro v a _; simp [distL]
  | succ k ih =>
    intro v a hs
    unfold distL
    have h1 := (brake_ok hv hs).safe
    have h2 := ih _ _ h1
    rw [safe_iff] at h1
    have h3 := valid_iff.1 hv
    split
    · omega
    · push_cast; omega
theorem distM_bound {S A j v a : Int} (hv : validM S A j = true) (hs : safeM S A j v a = true) : 0 ≤ distM A j v a ∧ distM A j v a ≤ 40000000000 := by
  have := distL_bound hv 400000 v a hs
  unfold distM; omega
end Go.Proofs.Ytoinimkmoojcoaa
/- Sums of plans. -/
set_option linter.unusedSimpArgs false
set_option linter.unusedVariables false
namespace Go.Proofs.Ytoinimkmoojcoaa
theorem next_in {S A j v a rest b : Int} (h : nextM S A j v a rest = some b) : 1 ≤ v + b ∧ v + b ≤ rest := by
  unfold nextM at h
  simp only at h
  split at h
  · cases h
  · split at h
    · cases h
      have := bisUp_range (p := fitsM S A j v rest) 20 (max (brakeM A j v a) (1 - v)) (min (min A (a + j)) (rest - v)) (by omega)
      omega
    · cases h
theorem fastL_sum {S A j : Int} : ∀ (k : Nat) (v a rest : Int) (l : List Int), 0 ≤ rest → fastL S A j k v a rest = some l → l.sum = rest ∧ (∀ x ∈ l, 0 < x) ∧ l.length ≤ k := by
  intro k
  induction k with
  | zero =>
    intro v a rest l h0 h
    simp only [fastL] at h
    split at h
    · cases h
    · cases h; simp; omega
  | succ k ih =>
    intro v a rest l h0 h
    simp only [fastL] at h
    split at h
    · cases hn : nextM S A j v a rest with
      | none => rw [hn] at h; cases h
      | some b =>
        rw [hn] at h
        simp only [Option.bind_some] at h
        cases hf : fastL S A j k (v + b) b (rest - (v + b)) with
        | none => rw [hf] at h; cases h
        | some l' =>
          rw [hf] at h
          simp only [Option.map_some] at h
          cases h
          have hb := next_in hn
          obtain ⟨h1, h2, h3⟩ := ih (v + b) b (rest - (v + b)) l' (by omega) hf
          refine ⟨by simp [h1]; omega, ?_, by simp; omega⟩
          intro x hx
          rcases List.mem_cons.1 hx with rfl | hx
          · omega
          · exact h2 x hx
    · cases h; simp; omega
theorem fbL_sum {u : Int} (hu : 0 < u) : ∀ (k : Nat) (rest : Int), 0 ≤ rest → rest ≤ k * u → (fbL u k rest).sum = rest ∧ (∀ x ∈ fbL u k rest, 0 < x) ∧ (fbL u k rest).length ≤ k := by
  intro k
  induction k with
  | zero => intro rest h0 h1; simp at h1; simp [fbL]; omega
  | succ k ih =>
    intro rest h0 h1
    simp only [fbL]
    split
    · have e1 := Int.emod_nonneg (rest - 1) (show u ≠ 0 by omega)
      have e2 := Int.emod_lt_of_pos (rest - 1) hu
      have e3 : (rest - 1) % u ≤ rest - 1 := by
        have e4 := Int.emod_add_mul_ediv (rest - 1) u
        have e5 : 0 ≤ u * ((rest - 1) / u) := Int.mul_nonneg (by omega) (Int.ediv_nonneg (by omega) (by omega))
        omega
      have hle : rest - ((rest - 1) % u + 1) ≤ k * u := by
        have e4 := Int.emod_add_mul_ediv (rest - 1) u
        have : (rest - 1) / u < k + 1 := by
          rw [Int.ediv_lt_iff_lt_mul hu]
          have : ((k + 1 : Nat) : Int) * u = (k + 1) * u := by simp
          rw [this] at h1; omega
        have h5 : u * ((rest - 1) / u) ≤ u * k := Int.mul_le_mul_of_nonneg_left (by omega) (by omega)
        rw [Int.mul_comm u k] at h5
        omega
      obtain ⟨a1, a2, a3⟩ := ih (rest - ((rest - 1) % u + 1)) (by omega) hle
      refine ⟨by simp [a1]; omega, ?_, by simp; omega⟩
      intro x hx
      rcases List.mem_cons.1 hx with rfl | hx
      · omega
      · exact a2 x hx
    · simp; omega
theorem simple_pos2 {S A j : Int} (hv : validM S A j = true) : 0 < simpleM S A j := by
  rw [valid_iff] at hv; unfold simpleM; omega
theorem ticks_ok {S A j m : Int} (h : (ticksM S A j m).2 = 0) : validM S A j = true ∧ 0 ≤ m ∧ m ≤ 1000000000000 ∧ (ticksM S A j m).1 = (m + simpleM S A j - 1) / simpleM S A j := by
  unfold ticksM at *
  split at h
  · cases h
  · rename_i h1
    split at h
    · cases h
    · rename_i h2
      rw [if_neg h1, if_neg h2]
      exact ⟨by cases hv : validM S A j with | true => rfl | false => exact absurd (.inl hv) h1, by omega, by omega, rfl⟩
theorem steps_sum {S A j m : Int} (h : (stepsM S A j m).2 = 0) : validM S A j = true ∧ 0 ≤ m ∧ (stepsM S A j m).1.sum = m ∧ (∀ x ∈ (stepsM S A j m).1, 0 < x) ∧ (stepsM S A j m).1.length ≤ 100000 := by
  unfold stepsM at *
  simp only at *
  split at h
  · rename_i h1; exact absurd h h1
  · rename_i h1
    have h1' : (ticksM S A j m).2 = 0 := by omega
    obtain ⟨hv, m0, m1, ht⟩ := ticks_ok h1'
    have hu := simple_pos2 hv
    have hk : m ≤ (ticksM S A j m).1.toNat * simpleM S A j := by
      have hnn : 0 ≤ (ticksM S A j m).1 := by rw [ht]; exact Int.ediv_nonneg (by omega) (by omega)
      rw [Int.toNat_of_nonneg hnn, ht]
      have e4 := Int.emod_add_mul_ediv (m + simpleM S A j - 1) (simpleM S A j)
      have e5 := Int.emod_lt_of_pos (m + simpleM S A j - 1) hu
      rw [Int.mul_comm] at e4
      omega
    split at h
    · cases h
    · rename_i h2
      rw [if_neg h1, if_neg h2]
      refine ⟨hv, m0, ?_⟩
      split
      · rename_i l hl
        unfold fastM at hl
        split at hl
        · cases hl
        · cases hf : fastL S A j (ticksM S A j m).1.toNat 0 0 m with
          | none => rw [hf] at hl; cases hl
          | some l' =>
            rw [hf] at hl
            simp only [Option.bind_some] at hl
            split at hl
            · cases hl
              obtain ⟨a1, a2, a3⟩ := fastL_sum _ _ _ _ _ m0 hf
              exact ⟨a1, a2, by simp only; omega⟩
            · cases hl
      · obtain ⟨a1, a2, a3⟩ := fbL_sum hu (ticksM S A j m).1.toNat m m0 hk
        exact ⟨a1, a2, by simp only; omega⟩
theorem stopL_sum {S A j : Int} (hv : validM S A j = true) : ∀ (k : Nat) (v a : Int), safeM S A j v a = true → (stopL A j k v a).sum = distL A j k v a ∧ (∀ x ∈ stopL A j k v a, 0 < x) ∧ (stopL A j k v a).length ≤ k := by
  intro k
  induction k with
  | zero => intro v a _; simp [stopL, distL]
  | succ k ih =>
    intro v a hs
    simp only [stopL, distL]
    split
    · simp
    · have hb := (brake_ok hv hs).safe
      have hb' := safe_iff.1 hb
      generalize brakeM A j v a = b at *
      obtain ⟨a1, a2, a3⟩ := ih (v + b) b hb
      split
      · refine ⟨by simp [a1], ?_, by simp; omega⟩
        intro x hx
        rcases List.mem_append.1 hx with hx | hx
        · simp at hx; omega
        · exact a2 x hx
      · refine ⟨by simp [a1]; omega, ?_, by simp; omega⟩
        intro x hx
        simp at hx; exact a2 x hx
theorem stop_sum {S A j p q : Int} (h : (stopM S A j p q).2 = 0) : movingM S A j p q = true ∧ (stopM S A j p q).1.sum = (neededM S A j p q).1 ∧ (neededM S A j p q).2 = 0 ∧ (∀ x ∈ (stopM S A j p q).1, 0 < x) ∧ (stopM S A j p q).1.length ≤ 400000 := by
  cases hm : movingM S A j p q with
  | false => simp [stopM, hm] at h
  | true =>
    have hm' := hm
    simp only [movingM, Bool.and_eq_true] at hm'
    obtain ⟨a1, a2, a3⟩ := stopL_sum hm'.1.1.1 400000 q (q - p) hm'.2
    simp only [stopM, neededM, hm, if_true, distM]
    exact ⟨trivial, a1, trivial, a2, a3⟩
end Go.Proofs.Ytoinimkmoojcoaa
/- The square root of a whole number by floating point, cut to a whole number: how great it can be. -/
set_option linter.unusedSimpArgs false
set_option linter.unusedVariables false
namespace Go.Dm
open Go Ieee

theorem bin_eq : double.binade = 4503599627370496 := by decide
theorem inf_eq : double.infRung = 9218868437227405312 := by decide
theorem sw_eq : double.signWeight = 9223372036854775808 := by decide
theorem lp_eq : double.leastPlace = -1074 := by decide
theorem fb_eq : double.fractionBits = 52 := by decide
/-- What a positive word below infinity stands for. -/
theorem read_num (R q : Nat) (hR : R < double.infRung) (hq : R / 4503599627370496 ≤ q + 1) : ∃ m p, double.read R = .number false m p ∧ m < 2 ^ 53 ∧ -1074 ≤ p ∧ p ≤ -1074 + q := by
  rw [inf_eq] at hR
  have h1 : R / double.signWeight = 0 := by rw [sw_eq]; omega
  have h2 : R % double.signWeight = R := by rw [sw_eq]; omega
  unfold Format.read
  simp only [h1, h2, bin_eq, inf_eq, lp_eq]
  split
  · exact ⟨R, -1074, by simp, by omega, by omega, by omega⟩
  · exact ⟨_, _, by simp; exact ⟨rfl, rfl⟩, by omega, by omega, by omega⟩
theorem even_cut_le (n drop k : Nat) (h : n < k * 2 ^ drop) (hk : drop ≤ n.log2 + 2) : Toward.even.cut false n drop ≤ k := by
  unfold Toward.cut
  simp only [Nat.min_eq_left hk, Nat.shiftLeft_eq, Nat.one_mul]
  have h1 : n / 2 ^ drop < k := Nat.div_lt_of_lt_mul (by rw [Nat.mul_comm]; exact h)
  have h2 : ∀ b : Bool, b.toNat ≤ 1 := by intro b; cases b <;> decide
  have := h2 (decide (2 ^ drop < 2 * (n % 2 ^ drop)) || (2 ^ drop == 2 * (n % 2 ^ drop) && n / 2 ^ drop % 2 == 1))
  omega
/-- How great a word can be. -/
theorem nearest_le (mag : Nat) (place : Int) (hm : mag ≠ 0) (hp : -1022 ≤ place + mag.log2) (top : Int) (ht : place + mag.log2 - 52 ≤ top) (ht0 : -1074 ≤ top) :
    double.nearest false mag place ≤ (top + 1074).toNat * 4503599627370496 + 9007199254740992 := by
  unfold Format.nearest
  rw [if_neg hm]
  simp only [fb_eq, lp_eq, bin_eq, inf_eq]
  have hl : max (place + (mag.log2 : Int) - (52 : Nat)) (-1074) = place + mag.log2 - 52 := by omega
  rw [hl]
  have hlog := Nat.lt_log2_self (n := mag)
  have hlog' := Nat.log2_self_le hm
  have hkept : Toward.even.cut false (mag <<< (place - (place + (mag.log2 : Int) - 52)).toNat) ((place + (mag.log2 : Int) - 52) - place).toNat ≤ 2 ^ 53 := by
    by_cases hc : mag.log2 ≤ 52
    · have e1 : (place - (place + (mag.log2 : Int) - 52)).toNat = 52 - mag.log2 := by omega
      have e2 : ((place + (mag.log2 : Int) - 52) - place).toNat = 0 := by omega
      rw [e1, e2]
      refine even_cut_le _ _ _ ?_ (by omega)
      rw [Nat.shiftLeft_eq, Nat.pow_zero, Nat.mul_one, show 53 = (mag.log2 + 1) + (52 - mag.log2) by omega, Nat.pow_add]
      exact Nat.mul_lt_mul_of_pos_right hlog (Nat.pow_pos (by decide))
    · have e1 : (place - (place + (mag.log2 : Int) - 52)).toNat = 0 := by omega
      have e2 : ((place + (mag.log2 : Int) - 52) - place).toNat = mag.log2 - 52 := by omega
      rw [e1, e2]
      refine even_cut_le _ _ _ ?_ (by simp; omega)
      rw [Nat.shiftLeft_eq, Nat.pow_zero, Nat.mul_one, ← Nat.pow_add, show 53 + (mag.log2 - 52) = mag.log2 + 1 by omega]
      exact hlog
  generalize Toward.even.cut false _ _ = kept at hkept
  simp only [Format.word, Bool.false_eq_true, if_false]
  have h3 : (place + (mag.log2 : Int) - 52 - -1074).toNat ≤ (top + 1074).toNat := by omega
  have h4 := Nat.mul_le_mul_right 4503599627370496 h3
  have h5 : (2 : Nat) ^ 53 = 9007199254740992 := by decide
  omega
theorem rootFrom_lt (n : Nat) : ∀ (t r k : Nat), r + 2 ^ t ≤ k → Datum.rootFrom n t r < k := by
  intro t
  induction t with
  | zero => intro r k h; simp [Datum.rootFrom]; omega
  | succ t ih =>
    intro r k h
    unfold Datum.rootFrom
    rw [Nat.pow_succ] at h
    simp only [Nat.shiftLeft_eq, Nat.one_mul]
    split
    · exact ih _ _ (by omega)
    · exact ih _ _ (by omega)
theorem write_number (neg : Bool) (mag : Nat) (place : Int) : double.write (.number neg mag place) = double.nearest neg mag place := rfl
theorem nearest_zero (place : Int) : double.nearest false 0 place = 0 := rfl
theorem read_zero : double.read 0 = .number false 0 (-1074) := by decide
theorem toInt_zero (p : Int) : Datum.toInt .zero (.number false 0 p) = some 0 := by
  simp [Datum.toInt, Datum.integral, Toward.cut, signed]
theorem toInt_le (m : Nat) (p : Int) (hm : m < 2 ^ 53) (hp : p ≤ -26) : ∃ z, Datum.toInt .zero (.number false m p) = some z ∧ 0 ≤ z ∧ z ≤ 134217728 := by
  have e : p.toNat = 0 := by omega
  simp only [Datum.toInt, Datum.integral, e, signed, Bool.false_eq_true, if_false, Nat.shiftLeft_eq, Nat.pow_zero, Nat.mul_one]
  refine ⟨_, rfl, by omega, ?_⟩
  unfold Toward.cut
  simp only [Nat.shiftLeft_eq, Nat.one_mul, Bool.toNat_false, Nat.add_zero]
  by_cases h : (-p).toNat ≤ m.log2 + 2
  · rw [Nat.min_eq_left h]
    have h1 : 2 ^ 26 ≤ 2 ^ (-p).toNat := Nat.pow_le_pow_right (by decide) (by omega)
    have h2 : m / 2 ^ (-p).toNat ≤ m / 2 ^ 26 := Nat.div_le_div_left h1 (by decide)
    have h3 : m / 2 ^ 26 ≤ 134217728 := by omega
    omega
  · rw [Nat.min_eq_right (by omega)]
    have h1 := Nat.lt_log2_self (n := m)
    have h2 : 2 ^ (m.log2 + 1) ≤ 2 ^ (m.log2 + 2) := Nat.pow_le_pow_right (by decide) (by omega)
    rw [Nat.div_eq_of_lt (by omega)]; decide
theorem sqrt_word (s : Nat) (hs : s < 2 ^ 51) : ∃ r, double.sqrt (double.nearest false s 0) = some r ∧ ∃ z, (double.read r).toInt .zero = some z ∧ 0 ≤ z ∧ z ≤ 134217728 := by
  unfold Format.sqrt
  have hr1 : ∃ m p, double.read (double.nearest false s 0) = .number false m p ∧ m < 2 ^ 53 ∧ -1074 ≤ p ∧ p ≤ -1074 + (1073 : Nat) := by
    by_cases h0 : s = 0
    · subst h0; exact ⟨0, -1074, by rw [nearest_zero, read_zero], by decide, by omega, by omega⟩
    · have hl : s.log2 < 51 := (Nat.log2_lt h0).2 hs
      have h1 := nearest_le s 0 h0 (by omega) (-2) (by omega) (by omega)
      exact read_num _ 1073 (by rw [inf_eq]; omega) (by omega)
  obtain ⟨m, p, e1, hm, hp1, hp2⟩ := hr1
  rw [e1, fb_eq]
  unfold Datum.root
  by_cases h0 : m = 0
  · subst h0
    refine ⟨0, rfl, 0, by rw [read_zero]; exact toInt_zero _, by omega, by omega⟩
  · dsimp only
    rw [if_neg h0]
    simp only [Bool.false_eq_true, if_false, Option.map_some, write_number]
    have hlm : m.log2 < 53 := (Nat.log2_lt h0).2 hm
    generalize hmore : 2 * (52 + 2) - m.log2 + ((p - ↑(2 * (52 + 2) - m.log2)) % 2).toNat = more
    have hmore' : more = 108 - m.log2 ∨ more = 109 - m.log2 := by omega
    have hn0 : m <<< more ≠ 0 := by
      rw [Nat.shiftLeft_eq]; exact Nat.mul_ne_zero h0 (Nat.pos_iff_ne_zero.1 (Nat.pow_pos (by decide)))
    have hnl : (m <<< more).log2 < 110 := by
      rw [Nat.log2_lt hn0, Nat.shiftLeft_eq]
      have h1 : m * 2 ^ more < 2 ^ (m.log2 + 1) * 2 ^ more := Nat.mul_lt_mul_of_pos_right (Nat.lt_log2_self) (Nat.pow_pos (by decide))
      rw [← Nat.pow_add] at h1
      exact Nat.lt_of_lt_of_le h1 (Nat.pow_le_pow_right (by decide) (by omega))
    generalize m <<< more = n at *
    have hw : Datum.rootFrom n (n.log2 / 2 + 1) 0 < 2 ^ 55 := rootFrom_lt _ _ _ _ (by
      rw [Nat.zero_add]; exact Nat.pow_le_pow_right (by decide) (by omega))
    generalize Datum.rootFrom n (n.log2 / 2 + 1) 0 = whole at *
    have hb : ∀ b : Bool, b.toNat ≤ 1 := by intro b; cases b <;> decide
    have hb' := hb (whole * whole != n)
    generalize (whole * whole != n).toNat = bit at *
    refine ⟨_, rfl, ?_⟩
    by_cases hz : 2 * whole + bit = 0
    · rw [hz, nearest_zero, read_zero]; exact ⟨0, toInt_zero _, by omega, by omega⟩
    · have hl : (2 * whole + bit).log2 < 56 := (Nat.log2_lt hz).2 (by omega)
      have h1 := nearest_le (2 * whole + bit) ((p - ↑more) / 2 - 1) hz (by omega) (-27) (by omega) (by omega)
      obtain ⟨m3, p3, e3, a1, a2, a3⟩ := read_num _ 1048 (by rw [inf_eq]; omega) (by omega : double.nearest false (2 * whole + bit) ((p - ↑more) / 2 - 1) / 4503599627370496 ≤ 1048 + 1)
      rw [e3]
      exact toInt_le m3 p3 a1 (by omega)
end Go.Dm
