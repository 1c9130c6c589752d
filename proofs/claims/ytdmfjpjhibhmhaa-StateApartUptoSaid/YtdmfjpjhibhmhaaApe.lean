/- StateApart: states that differ have unlike bytes. (Part 5: F, Open2, Bulk.) -/
import Derived.Test.YtdmfjpjhibhmhaaApd
import Derived.Test.YtdmfjpjhibhmhaaProg
import Derived.KernelRfl
import Derived.Test.YtdmfjpjhibhmhaaRows

/- The instances of the calculus' classes for this translation: facts of its tables, each by the kernel. Written by a program (genfacts.py). -/
namespace Go.PK
open Go.Proofs

instance : Und Try.prog 2 (.int .i64) := ⟨by kernel_rfl⟩
instance : Sz Try.prog 2 1 := ⟨by kernel_rfl⟩
instance : Bts Try.prog 2 8 := ⟨by kernel_rfl⟩
instance : IsPlain Try.prog 2 := ⟨by kernel_rfl⟩
instance : Zer Try.prog 2 [(1, [.int .i64 0])] := ⟨by kernel_rfl, inferInstance⟩
instance : Und Try.prog 3 (.int .i64) := ⟨by kernel_rfl⟩
instance : Sz Try.prog 3 1 := ⟨by kernel_rfl⟩
instance : Bts Try.prog 3 8 := ⟨by kernel_rfl⟩
instance : IsPlain Try.prog 3 := ⟨by kernel_rfl⟩
instance : Zer Try.prog 3 [(1, [.int .i64 0])] := ⟨by kernel_rfl, inferInstance⟩
instance : Und Try.prog 4 .bool := ⟨by kernel_rfl⟩
instance : Sz Try.prog 4 1 := ⟨by kernel_rfl⟩
instance : Bts Try.prog 4 1 := ⟨by kernel_rfl⟩
instance : IsPlain Try.prog 4 := ⟨by kernel_rfl⟩
instance : Zer Try.prog 4 [(1, [.bool false])] := ⟨by kernel_rfl, inferInstance⟩
instance : Und Try.prog 5 (.int .u8) := ⟨by kernel_rfl⟩
instance : Sz Try.prog 5 1 := ⟨by kernel_rfl⟩
instance : Bts Try.prog 5 1 := ⟨by kernel_rfl⟩
instance : IsPlain Try.prog 5 := ⟨by kernel_rfl⟩
instance : Zer Try.prog 5 [(1, [.int .u8 0])] := ⟨by kernel_rfl, inferInstance⟩
instance : Und Try.prog 6 (.int .u8) := ⟨by kernel_rfl⟩
instance : Sz Try.prog 6 1 := ⟨by kernel_rfl⟩
instance : Bts Try.prog 6 1 := ⟨by kernel_rfl⟩
instance : IsPlain Try.prog 6 := ⟨by kernel_rfl⟩
instance : Zer Try.prog 6 [(1, [.int .u8 0])] := ⟨by kernel_rfl, inferInstance⟩
instance : Sz Try.prog 7 4 := ⟨by kernel_rfl⟩
instance : Bts Try.prog 7 24 := ⟨by kernel_rfl⟩
instance : IsAgg Try.prog 7 := ⟨by kernel_rfl⟩
instance : Zer Try.prog 7 [(1, [.int .i64 0]), (1, [.int .i64 0]), (1, [.bool false]), (1, [.int .u8 0])] := ⟨by kernel_rfl, inferInstance⟩
instance : Fld Try.prog 7 0 0 2 0 := ⟨by kernel_rfl⟩
instance : Fld Try.prog 7 1 1 3 0 := ⟨by kernel_rfl⟩
instance : Fld Try.prog 7 2 2 4 0 := ⟨by kernel_rfl⟩
instance : Fld Try.prog 7 3 3 6 0 := ⟨by kernel_rfl⟩
instance : Sz Try.prog 8 4 := ⟨by kernel_rfl⟩
instance : Bts Try.prog 8 24 := ⟨by kernel_rfl⟩
instance : IsAgg Try.prog 8 := ⟨by kernel_rfl⟩
instance : Zer Try.prog 8 [(1, [.int .i64 0]), (1, [.int .i64 0]), (1, [.bool false]), (1, [.int .u8 0])] := ⟨by kernel_rfl, inferInstance⟩
instance : Fld Try.prog 8 0 0 2 0 := ⟨by kernel_rfl⟩
instance : Fld Try.prog 8 1 1 3 0 := ⟨by kernel_rfl⟩
instance : Fld Try.prog 8 2 2 4 0 := ⟨by kernel_rfl⟩
instance : Fld Try.prog 8 3 3 6 0 := ⟨by kernel_rfl⟩
instance : Und Try.prog 9 .string := ⟨by kernel_rfl⟩
instance : Sz Try.prog 9 1 := ⟨by kernel_rfl⟩
instance : Bts Try.prog 9 16 := ⟨by kernel_rfl⟩
instance : IsPlain Try.prog 9 := ⟨by kernel_rfl⟩
instance : Zer Try.prog 9 [(1, [.string ⟨#[]⟩])] := ⟨by kernel_rfl, inferInstance⟩
instance : Und Try.prog 10 .string := ⟨by kernel_rfl⟩
instance : Sz Try.prog 10 1 := ⟨by kernel_rfl⟩
instance : Bts Try.prog 10 16 := ⟨by kernel_rfl⟩
instance : IsPlain Try.prog 10 := ⟨by kernel_rfl⟩
instance : Zer Try.prog 10 [(1, [.string ⟨#[]⟩])] := ⟨by kernel_rfl, inferInstance⟩
instance : Und Try.prog 11 .string := ⟨by kernel_rfl⟩
instance : Sz Try.prog 11 1 := ⟨by kernel_rfl⟩
instance : Bts Try.prog 11 16 := ⟨by kernel_rfl⟩
instance : IsPlain Try.prog 11 := ⟨by kernel_rfl⟩
instance : Zer Try.prog 11 [(1, [.string ⟨#[]⟩])] := ⟨by kernel_rfl, inferInstance⟩
instance : Und Try.prog 12 (.int .u64) := ⟨by kernel_rfl⟩
instance : Sz Try.prog 12 1 := ⟨by kernel_rfl⟩
instance : Bts Try.prog 12 8 := ⟨by kernel_rfl⟩
instance : IsPlain Try.prog 12 := ⟨by kernel_rfl⟩
instance : Zer Try.prog 12 [(1, [.int .u64 0])] := ⟨by kernel_rfl, inferInstance⟩
instance : Sz Try.prog 13 2 := ⟨by kernel_rfl⟩
instance : Bts Try.prog 13 24 := ⟨by kernel_rfl⟩
instance : IsAgg Try.prog 13 := ⟨by kernel_rfl⟩
instance : Zer Try.prog 13 [(1, [.string ⟨#[]⟩]), (1, [.int .u64 0])] := ⟨by kernel_rfl, inferInstance⟩
instance : Fld Try.prog 13 0 0 9 0 := ⟨by kernel_rfl⟩
instance : Fld Try.prog 13 1 1 12 0 := ⟨by kernel_rfl⟩
instance : Sz Try.prog 14 2 := ⟨by kernel_rfl⟩
instance : Bts Try.prog 14 24 := ⟨by kernel_rfl⟩
instance : IsAgg Try.prog 14 := ⟨by kernel_rfl⟩
instance : Zer Try.prog 14 [(1, [.string ⟨#[]⟩]), (1, [.int .u64 0])] := ⟨by kernel_rfl, inferInstance⟩
instance : Fld Try.prog 14 0 0 9 0 := ⟨by kernel_rfl⟩
instance : Fld Try.prog 14 1 1 12 0 := ⟨by kernel_rfl⟩
instance : Und Try.prog 15 (.pointer 138) := ⟨by kernel_rfl⟩
instance : Sz Try.prog 15 1 := ⟨by kernel_rfl⟩
instance : Bts Try.prog 15 8 := ⟨by kernel_rfl⟩
instance : IsPlain Try.prog 15 := ⟨by kernel_rfl⟩
instance : Zer Try.prog 15 [(1, [.pointer none])] := ⟨by kernel_rfl, inferInstance⟩
instance : Und Try.prog 16 (.pointer 141) := ⟨by kernel_rfl⟩
instance : Sz Try.prog 16 1 := ⟨by kernel_rfl⟩
instance : Bts Try.prog 16 8 := ⟨by kernel_rfl⟩
instance : IsPlain Try.prog 16 := ⟨by kernel_rfl⟩
instance : Zer Try.prog 16 [(1, [.pointer none])] := ⟨by kernel_rfl, inferInstance⟩
instance : Und Try.prog 17 (.pointer 151) := ⟨by kernel_rfl⟩
instance : Sz Try.prog 17 1 := ⟨by kernel_rfl⟩
instance : Bts Try.prog 17 8 := ⟨by kernel_rfl⟩
instance : IsPlain Try.prog 17 := ⟨by kernel_rfl⟩
instance : Zer Try.prog 17 [(1, [.pointer none])] := ⟨by kernel_rfl, inferInstance⟩
instance : Sz Try.prog 18 1 := ⟨by kernel_rfl⟩
instance : Bts Try.prog 18 8 := ⟨by kernel_rfl⟩
instance : IsAgg Try.prog 18 := ⟨by kernel_rfl⟩
instance : Zer Try.prog 18 [(1, [.pointer none])] := ⟨by kernel_rfl, inferInstance⟩
instance : Fld Try.prog 18 0 0 17 0 := ⟨by kernel_rfl⟩
instance : Sz Try.prog 19 1 := ⟨by kernel_rfl⟩
instance : Bts Try.prog 19 8 := ⟨by kernel_rfl⟩
instance : IsAgg Try.prog 19 := ⟨by kernel_rfl⟩
instance : Zer Try.prog 19 [(1, [.pointer none])] := ⟨by kernel_rfl, inferInstance⟩
instance : Fld Try.prog 19 0 0 17 0 := ⟨by kernel_rfl⟩
instance : Und Try.prog 21 (.int .i32) := ⟨by kernel_rfl⟩
instance : Sz Try.prog 21 1 := ⟨by kernel_rfl⟩
instance : Bts Try.prog 21 4 := ⟨by kernel_rfl⟩
instance : IsPlain Try.prog 21 := ⟨by kernel_rfl⟩
instance : Zer Try.prog 21 [(1, [.int .i32 0])] := ⟨by kernel_rfl, inferInstance⟩
instance : Und Try.prog 22 (.int .u64) := ⟨by kernel_rfl⟩
instance : Sz Try.prog 22 1 := ⟨by kernel_rfl⟩
instance : Bts Try.prog 22 8 := ⟨by kernel_rfl⟩
instance : IsPlain Try.prog 22 := ⟨by kernel_rfl⟩
instance : Zer Try.prog 22 [(1, [.int .u64 0])] := ⟨by kernel_rfl, inferInstance⟩
instance : Und Try.prog 23 (.array 32 5) := ⟨by kernel_rfl⟩
instance : Sz Try.prog 23 32 := ⟨by kernel_rfl⟩
instance : Bts Try.prog 23 32 := ⟨by kernel_rfl⟩
instance : IsAgg Try.prog 23 := ⟨by kernel_rfl⟩
instance : Zer Try.prog 23 [(32, List.replicate 32 (.int .u8 0))] := ⟨by kernel_rfl, inferInstance⟩
instance : Und Try.prog 24 (.array 32 5) := ⟨by kernel_rfl⟩
instance : Sz Try.prog 24 32 := ⟨by kernel_rfl⟩
instance : Bts Try.prog 24 32 := ⟨by kernel_rfl⟩
instance : IsAgg Try.prog 24 := ⟨by kernel_rfl⟩
instance : Zer Try.prog 24 [(32, List.replicate 32 (.int .u8 0))] := ⟨by kernel_rfl, inferInstance⟩
instance : Und Try.prog 25 (.array 4 5) := ⟨by kernel_rfl⟩
instance : Sz Try.prog 25 4 := ⟨by kernel_rfl⟩
instance : Bts Try.prog 25 4 := ⟨by kernel_rfl⟩
instance : IsAgg Try.prog 25 := ⟨by kernel_rfl⟩
instance : Zer Try.prog 25 [(4, List.replicate 4 (.int .u8 0))] := ⟨by kernel_rfl, inferInstance⟩
instance : Und Try.prog 26 (.array 4 5) := ⟨by kernel_rfl⟩
instance : Sz Try.prog 26 4 := ⟨by kernel_rfl⟩
instance : Bts Try.prog 26 4 := ⟨by kernel_rfl⟩
instance : IsAgg Try.prog 26 := ⟨by kernel_rfl⟩
instance : Zer Try.prog 26 [(4, List.replicate 4 (.int .u8 0))] := ⟨by kernel_rfl, inferInstance⟩
instance : Sz Try.prog 27 9 := ⟨by kernel_rfl⟩
instance : Bts Try.prog 27 16 := ⟨by kernel_rfl⟩
instance : IsAgg Try.prog 27 := ⟨by kernel_rfl⟩
instance : Zer Try.prog 27 [(4, List.replicate 4 (.int .u8 0)), (4, List.replicate 4 (.int .u8 0)), (1, [.int .u64 0])] := ⟨by kernel_rfl, inferInstance⟩
instance : Fld Try.prog 27 0 0 26 3 := ⟨by kernel_rfl⟩
instance : Fld Try.prog 27 1 4 26 3 := ⟨by kernel_rfl⟩
instance : Fld Try.prog 27 2 8 22 0 := ⟨by kernel_rfl⟩
instance : Sz Try.prog 28 9 := ⟨by kernel_rfl⟩
instance : Bts Try.prog 28 16 := ⟨by kernel_rfl⟩
instance : IsAgg Try.prog 28 := ⟨by kernel_rfl⟩
instance : Zer Try.prog 28 [(4, List.replicate 4 (.int .u8 0)), (4, List.replicate 4 (.int .u8 0)), (1, [.int .u64 0])] := ⟨by kernel_rfl, inferInstance⟩
instance : Fld Try.prog 28 0 0 26 3 := ⟨by kernel_rfl⟩
instance : Fld Try.prog 28 1 4 26 3 := ⟨by kernel_rfl⟩
instance : Fld Try.prog 28 2 8 22 0 := ⟨by kernel_rfl⟩
instance : Sz Try.prog 29 98 := ⟨by kernel_rfl⟩
instance : Bts Try.prog 29 112 := ⟨by kernel_rfl⟩
instance : IsAgg Try.prog 29 := ⟨by kernel_rfl⟩
instance : Zer Try.prog 29 [(1, [.int .u64 0]), (1, [.int .u64 0]), (32, List.replicate 32 (.int .u8 0)), (32, List.replicate 32 (.int .u8 0)), (32, List.replicate 32 (.int .u8 0))] := ⟨by kernel_rfl, inferInstance⟩
instance : Fld Try.prog 29 0 0 22 0 := ⟨by kernel_rfl⟩
instance : Fld Try.prog 29 1 1 22 0 := ⟨by kernel_rfl⟩
instance : Fld Try.prog 29 2 2 24 31 := ⟨by kernel_rfl⟩
instance : Fld Try.prog 29 3 34 24 31 := ⟨by kernel_rfl⟩
instance : Fld Try.prog 29 4 66 24 31 := ⟨by kernel_rfl⟩
instance : Sz Try.prog 30 98 := ⟨by kernel_rfl⟩
instance : Bts Try.prog 30 112 := ⟨by kernel_rfl⟩
instance : IsAgg Try.prog 30 := ⟨by kernel_rfl⟩
instance : Zer Try.prog 30 [(1, [.int .u64 0]), (1, [.int .u64 0]), (32, List.replicate 32 (.int .u8 0)), (32, List.replicate 32 (.int .u8 0)), (32, List.replicate 32 (.int .u8 0))] := ⟨by kernel_rfl, inferInstance⟩
instance : Fld Try.prog 30 0 0 22 0 := ⟨by kernel_rfl⟩
instance : Fld Try.prog 30 1 1 22 0 := ⟨by kernel_rfl⟩
instance : Fld Try.prog 30 2 2 24 31 := ⟨by kernel_rfl⟩
instance : Fld Try.prog 30 3 34 24 31 := ⟨by kernel_rfl⟩
instance : Fld Try.prog 30 4 66 24 31 := ⟨by kernel_rfl⟩
instance : Und Try.prog 31 (.array 8 24) := ⟨by kernel_rfl⟩
instance : Sz Try.prog 31 256 := ⟨by kernel_rfl⟩
instance : Bts Try.prog 31 256 := ⟨by kernel_rfl⟩
instance : IsAgg Try.prog 31 := ⟨by kernel_rfl⟩
instance : Zer Try.prog 31 [(256, List.replicate 256 (.int .u8 0))] := ⟨by kernel_rfl, inferInstance⟩
instance : Und Try.prog 32 (.slice 24) := ⟨by kernel_rfl⟩
instance : Sz Try.prog 32 1 := ⟨by kernel_rfl⟩
instance : Bts Try.prog 32 24 := ⟨by kernel_rfl⟩
instance : IsPlain Try.prog 32 := ⟨by kernel_rfl⟩
instance : Zer Try.prog 32 [(1, [.slice none 0 0])] := ⟨by kernel_rfl, inferInstance⟩
instance : Sz Try.prog 33 65 := ⟨by kernel_rfl⟩
instance : Bts Try.prog 33 72 := ⟨by kernel_rfl⟩
instance : IsAgg Try.prog 33 := ⟨by kernel_rfl⟩
instance : Zer Try.prog 33 [(32, List.replicate 32 (.int .u8 0)), (1, [.int .u64 0]), (32, List.replicate 32 (.int .u8 0))] := ⟨by kernel_rfl, inferInstance⟩
instance : Fld Try.prog 33 0 0 24 31 := ⟨by kernel_rfl⟩
instance : Fld Try.prog 33 1 32 22 0 := ⟨by kernel_rfl⟩
instance : Fld Try.prog 33 2 33 24 31 := ⟨by kernel_rfl⟩
instance : Sz Try.prog 34 65 := ⟨by kernel_rfl⟩
instance : Bts Try.prog 34 72 := ⟨by kernel_rfl⟩
instance : IsAgg Try.prog 34 := ⟨by kernel_rfl⟩
instance : Zer Try.prog 34 [(32, List.replicate 32 (.int .u8 0)), (1, [.int .u64 0]), (32, List.replicate 32 (.int .u8 0))] := ⟨by kernel_rfl, inferInstance⟩
instance : Fld Try.prog 34 0 0 24 31 := ⟨by kernel_rfl⟩
instance : Fld Try.prog 34 1 32 22 0 := ⟨by kernel_rfl⟩
instance : Fld Try.prog 34 2 33 24 31 := ⟨by kernel_rfl⟩
instance : Und Try.prog 35 (.slice 34) := ⟨by kernel_rfl⟩
instance : Sz Try.prog 35 1 := ⟨by kernel_rfl⟩
instance : Bts Try.prog 35 24 := ⟨by kernel_rfl⟩
instance : IsPlain Try.prog 35 := ⟨by kernel_rfl⟩
instance : Zer Try.prog 35 [(1, [.slice none 0 0])] := ⟨by kernel_rfl, inferInstance⟩
instance : Und Try.prog 36 (.slice 62) := ⟨by kernel_rfl⟩
instance : Sz Try.prog 36 1 := ⟨by kernel_rfl⟩
instance : Bts Try.prog 36 24 := ⟨by kernel_rfl⟩
instance : IsPlain Try.prog 36 := ⟨by kernel_rfl⟩
instance : Zer Try.prog 36 [(1, [.slice none 0 0])] := ⟨by kernel_rfl, inferInstance⟩
instance : Und Try.prog 37 (.slice 22) := ⟨by kernel_rfl⟩
instance : Sz Try.prog 37 1 := ⟨by kernel_rfl⟩
instance : Bts Try.prog 37 24 := ⟨by kernel_rfl⟩
instance : IsPlain Try.prog 37 := ⟨by kernel_rfl⟩
instance : Zer Try.prog 37 [(1, [.slice none 0 0])] := ⟨by kernel_rfl, inferInstance⟩
instance : Und Try.prog 38 (.array 8 22) := ⟨by kernel_rfl⟩
instance : Sz Try.prog 38 8 := ⟨by kernel_rfl⟩
instance : Bts Try.prog 38 64 := ⟨by kernel_rfl⟩
instance : IsAgg Try.prog 38 := ⟨by kernel_rfl⟩
instance : Zer Try.prog 38 [(8, List.replicate 8 (.int .u64 0))] := ⟨by kernel_rfl, inferInstance⟩
instance : Und Try.prog 39 (.slice 5) := ⟨by kernel_rfl⟩
instance : Sz Try.prog 39 1 := ⟨by kernel_rfl⟩
instance : Bts Try.prog 39 24 := ⟨by kernel_rfl⟩
instance : IsPlain Try.prog 39 := ⟨by kernel_rfl⟩
instance : Zer Try.prog 39 [(1, [.slice none 0 0])] := ⟨by kernel_rfl, inferInstance⟩
instance : Und Try.prog 40 (.array 4 4) := ⟨by kernel_rfl⟩
instance : Sz Try.prog 40 4 := ⟨by kernel_rfl⟩
instance : Bts Try.prog 40 4 := ⟨by kernel_rfl⟩
instance : IsAgg Try.prog 40 := ⟨by kernel_rfl⟩
instance : Zer Try.prog 40 [(4, List.replicate 4 (.bool false))] := ⟨by kernel_rfl, inferInstance⟩
instance : Sz Try.prog 41 33 := ⟨by kernel_rfl⟩
instance : Bts Try.prog 41 40 := ⟨by kernel_rfl⟩
instance : IsAgg Try.prog 41 := ⟨by kernel_rfl⟩
instance : Zer Try.prog 41 [(1, [.int .u64 0]), (32, List.replicate 32 (.int .u8 0))] := ⟨by kernel_rfl, inferInstance⟩
instance : Fld Try.prog 41 0 0 22 0 := ⟨by kernel_rfl⟩
instance : Fld Try.prog 41 1 1 24 31 := ⟨by kernel_rfl⟩
instance : Sz Try.prog 42 33 := ⟨by kernel_rfl⟩
instance : Bts Try.prog 42 40 := ⟨by kernel_rfl⟩
instance : IsAgg Try.prog 42 := ⟨by kernel_rfl⟩
instance : Zer Try.prog 42 [(1, [.int .u64 0]), (32, List.replicate 32 (.int .u8 0))] := ⟨by kernel_rfl, inferInstance⟩
instance : Fld Try.prog 42 0 0 22 0 := ⟨by kernel_rfl⟩
instance : Fld Try.prog 42 1 1 24 31 := ⟨by kernel_rfl⟩
instance : Und Try.prog 43 (.array 48 5) := ⟨by kernel_rfl⟩
instance : Sz Try.prog 43 48 := ⟨by kernel_rfl⟩
instance : Bts Try.prog 43 48 := ⟨by kernel_rfl⟩
instance : IsAgg Try.prog 43 := ⟨by kernel_rfl⟩
instance : Zer Try.prog 43 [(48, List.replicate 48 (.int .u8 0))] := ⟨by kernel_rfl, inferInstance⟩
instance : Und Try.prog 44 (.array 48 5) := ⟨by kernel_rfl⟩
instance : Sz Try.prog 44 48 := ⟨by kernel_rfl⟩
instance : Bts Try.prog 44 48 := ⟨by kernel_rfl⟩
instance : IsAgg Try.prog 44 := ⟨by kernel_rfl⟩
instance : Zer Try.prog 44 [(48, List.replicate 48 (.int .u8 0))] := ⟨by kernel_rfl, inferInstance⟩
instance : Und Try.prog 45 (.array 8 44) := ⟨by kernel_rfl⟩
instance : Sz Try.prog 45 384 := ⟨by kernel_rfl⟩
instance : Bts Try.prog 45 384 := ⟨by kernel_rfl⟩
instance : IsAgg Try.prog 45 := ⟨by kernel_rfl⟩
instance : Zer Try.prog 45 [(384, List.replicate 384 (.int .u8 0))] := ⟨by kernel_rfl, inferInstance⟩
instance : Sz Try.prog 46 432 := ⟨by kernel_rfl⟩
instance : Bts Try.prog 46 432 := ⟨by kernel_rfl⟩
instance : IsAgg Try.prog 46 := ⟨by kernel_rfl⟩
instance : Zer Try.prog 46 [(384, List.replicate 384 (.int .u8 0)), (48, List.replicate 48 (.int .u8 0))] := ⟨by kernel_rfl, inferInstance⟩
instance : Fld Try.prog 46 0 0 45 383 := ⟨by kernel_rfl⟩
instance : Fld Try.prog 46 1 384 44 47 := ⟨by kernel_rfl⟩
instance : Sz Try.prog 47 432 := ⟨by kernel_rfl⟩
instance : Bts Try.prog 47 432 := ⟨by kernel_rfl⟩
instance : IsAgg Try.prog 47 := ⟨by kernel_rfl⟩
instance : Zer Try.prog 47 [(384, List.replicate 384 (.int .u8 0)), (48, List.replicate 48 (.int .u8 0))] := ⟨by kernel_rfl, inferInstance⟩
instance : Fld Try.prog 47 0 0 45 383 := ⟨by kernel_rfl⟩
instance : Fld Try.prog 47 1 384 44 47 := ⟨by kernel_rfl⟩
instance : Sz Try.prog 48 1957 := ⟨by kernel_rfl⟩
instance : Bts Try.prog 48 2248 := ⟨by kernel_rfl⟩
instance : IsAgg Try.prog 48 := ⟨by kernel_rfl⟩
instance : Zer Try.prog 48 [(1, [.int .u64 0]), (32, List.replicate 32 (.int .u8 0)), (1, [.int .u64 0]), (4, List.replicate 4 (.int .u8 0)), (4, List.replicate 4 (.int .u8 0)), (1, [.int .u64 0]), (1, [.int .u64 0]), (1, [.int .u64 0]), (32, List.replicate 32 (.int .u8 0)), (32, List.replicate 32 (.int .u8 0)), (32, List.replicate 32 (.int .u8 0)), (256, List.replicate 256 (.int .u8 0)), (256, List.replicate 256 (.int .u8 0)), (1, [.slice none 0 0]), (32, List.replicate 32 (.int .u8 0)), (1, [.int .u64 0]), (32, List.replicate 32 (.int .u8 0)), (1, [.slice none 0 0]), (1, [.int .u64 0]), (1, [.slice none 0 0]), (1, [.slice none 0 0]), (256, List.replicate 256 (.int .u8 0)), (8, List.replicate 8 (.int .u64 0)), (1, [.slice none 0 0]), (1, [.slice none 0 0]), (4, List.replicate 4 (.bool false)), (1, [.int .u64 0]), (32, List.replicate 32 (.int .u8 0)), (1, [.int .u64 0]), (32, List.replicate 32 (.int .u8 0)), (1, [.int .u64 0]), (32, List.replicate 32 (.int .u8 0)), (1, [.slice none 0 0]), (384, List.replicate 384 (.int .u8 0)), (48, List.replicate 48 (.int .u8 0)), (384, List.replicate 384 (.int .u8 0)), (48, List.replicate 48 (.int .u8 0))] := ⟨by kernel_rfl, inferInstance⟩
instance : Fld Try.prog 48 0 0 22 0 := ⟨by kernel_rfl⟩
instance : Fld Try.prog 48 1 1 24 31 := ⟨by kernel_rfl⟩
instance : Fld Try.prog 48 2 33 22 0 := ⟨by kernel_rfl⟩
instance : Fld Try.prog 48 3 34 28 8 := ⟨by kernel_rfl⟩
instance : Fld Try.prog 48 4 43 30 97 := ⟨by kernel_rfl⟩
instance : Fld Try.prog 48 5 141 31 255 := ⟨by kernel_rfl⟩
instance : Fld Try.prog 48 6 397 31 255 := ⟨by kernel_rfl⟩
instance : Fld Try.prog 48 7 653 32 0 := ⟨by kernel_rfl⟩
instance : Fld Try.prog 48 8 654 34 64 := ⟨by kernel_rfl⟩
instance : Fld Try.prog 48 9 719 35 0 := ⟨by kernel_rfl⟩
instance : Fld Try.prog 48 10 720 22 0 := ⟨by kernel_rfl⟩
instance : Fld Try.prog 48 11 721 36 0 := ⟨by kernel_rfl⟩
instance : Fld Try.prog 48 12 722 37 0 := ⟨by kernel_rfl⟩
instance : Fld Try.prog 48 13 723 31 255 := ⟨by kernel_rfl⟩
instance : Fld Try.prog 48 14 979 38 7 := ⟨by kernel_rfl⟩
instance : Fld Try.prog 48 15 987 39 0 := ⟨by kernel_rfl⟩
instance : Fld Try.prog 48 16 988 39 0 := ⟨by kernel_rfl⟩
instance : Fld Try.prog 48 17 989 40 3 := ⟨by kernel_rfl⟩
instance : Fld Try.prog 48 18 993 42 32 := ⟨by kernel_rfl⟩
instance : Fld Try.prog 48 19 1026 42 32 := ⟨by kernel_rfl⟩
instance : Fld Try.prog 48 20 1059 42 32 := ⟨by kernel_rfl⟩
instance : Fld Try.prog 48 21 1092 37 0 := ⟨by kernel_rfl⟩
instance : Fld Try.prog 48 22 1093 47 431 := ⟨by kernel_rfl⟩
instance : Fld Try.prog 48 23 1525 47 431 := ⟨by kernel_rfl⟩
instance : Sz Try.prog 49 1957 := ⟨by kernel_rfl⟩
instance : Bts Try.prog 49 2248 := ⟨by kernel_rfl⟩
instance : IsAgg Try.prog 49 := ⟨by kernel_rfl⟩
instance : Zer Try.prog 49 [(1, [.int .u64 0]), (32, List.replicate 32 (.int .u8 0)), (1, [.int .u64 0]), (4, List.replicate 4 (.int .u8 0)), (4, List.replicate 4 (.int .u8 0)), (1, [.int .u64 0]), (1, [.int .u64 0]), (1, [.int .u64 0]), (32, List.replicate 32 (.int .u8 0)), (32, List.replicate 32 (.int .u8 0)), (32, List.replicate 32 (.int .u8 0)), (256, List.replicate 256 (.int .u8 0)), (256, List.replicate 256 (.int .u8 0)), (1, [.slice none 0 0]), (32, List.replicate 32 (.int .u8 0)), (1, [.int .u64 0]), (32, List.replicate 32 (.int .u8 0)), (1, [.slice none 0 0]), (1, [.int .u64 0]), (1, [.slice none 0 0]), (1, [.slice none 0 0]), (256, List.replicate 256 (.int .u8 0)), (8, List.replicate 8 (.int .u64 0)), (1, [.slice none 0 0]), (1, [.slice none 0 0]), (4, List.replicate 4 (.bool false)), (1, [.int .u64 0]), (32, List.replicate 32 (.int .u8 0)), (1, [.int .u64 0]), (32, List.replicate 32 (.int .u8 0)), (1, [.int .u64 0]), (32, List.replicate 32 (.int .u8 0)), (1, [.slice none 0 0]), (384, List.replicate 384 (.int .u8 0)), (48, List.replicate 48 (.int .u8 0)), (384, List.replicate 384 (.int .u8 0)), (48, List.replicate 48 (.int .u8 0))] := ⟨by kernel_rfl, inferInstance⟩
instance : Fld Try.prog 49 0 0 22 0 := ⟨by kernel_rfl⟩
instance : Fld Try.prog 49 1 1 24 31 := ⟨by kernel_rfl⟩
instance : Fld Try.prog 49 2 33 22 0 := ⟨by kernel_rfl⟩
instance : Fld Try.prog 49 3 34 28 8 := ⟨by kernel_rfl⟩
instance : Fld Try.prog 49 4 43 30 97 := ⟨by kernel_rfl⟩
instance : Fld Try.prog 49 5 141 31 255 := ⟨by kernel_rfl⟩
instance : Fld Try.prog 49 6 397 31 255 := ⟨by kernel_rfl⟩
instance : Fld Try.prog 49 7 653 32 0 := ⟨by kernel_rfl⟩
instance : Fld Try.prog 49 8 654 34 64 := ⟨by kernel_rfl⟩
instance : Fld Try.prog 49 9 719 35 0 := ⟨by kernel_rfl⟩
instance : Fld Try.prog 49 10 720 22 0 := ⟨by kernel_rfl⟩
instance : Fld Try.prog 49 11 721 36 0 := ⟨by kernel_rfl⟩
instance : Fld Try.prog 49 12 722 37 0 := ⟨by kernel_rfl⟩
instance : Fld Try.prog 49 13 723 31 255 := ⟨by kernel_rfl⟩
instance : Fld Try.prog 49 14 979 38 7 := ⟨by kernel_rfl⟩
instance : Fld Try.prog 49 15 987 39 0 := ⟨by kernel_rfl⟩
instance : Fld Try.prog 49 16 988 39 0 := ⟨by kernel_rfl⟩
instance : Fld Try.prog 49 17 989 40 3 := ⟨by kernel_rfl⟩
instance : Fld Try.prog 49 18 993 42 32 := ⟨by kernel_rfl⟩
instance : Fld Try.prog 49 19 1026 42 32 := ⟨by kernel_rfl⟩
instance : Fld Try.prog 49 20 1059 42 32 := ⟨by kernel_rfl⟩
instance : Fld Try.prog 49 21 1092 37 0 := ⟨by kernel_rfl⟩
instance : Fld Try.prog 49 22 1093 47 431 := ⟨by kernel_rfl⟩
instance : Fld Try.prog 49 23 1525 47 431 := ⟨by kernel_rfl⟩
instance : Und Try.prog 55 (.int .i64) := ⟨by kernel_rfl⟩
instance : Sz Try.prog 55 1 := ⟨by kernel_rfl⟩
instance : Bts Try.prog 55 8 := ⟨by kernel_rfl⟩
instance : IsPlain Try.prog 55 := ⟨by kernel_rfl⟩
instance : Zer Try.prog 55 [(1, [.int .i64 0])] := ⟨by kernel_rfl, inferInstance⟩
instance : Und Try.prog 60 (.array 3 42) := ⟨by kernel_rfl⟩
instance : Sz Try.prog 60 99 := ⟨by kernel_rfl⟩
instance : Bts Try.prog 60 120 := ⟨by kernel_rfl⟩
instance : IsAgg Try.prog 60 := ⟨by kernel_rfl⟩
instance : Zer Try.prog 60 [(1, [.int .u64 0]), (32, List.replicate 32 (.int .u8 0)), (1, [.int .u64 0]), (32, List.replicate 32 (.int .u8 0)), (1, [.int .u64 0]), (32, List.replicate 32 (.int .u8 0))] := ⟨by kernel_rfl, inferInstance⟩
instance : Sz Try.prog 61 86 := ⟨by kernel_rfl⟩
instance : Bts Try.prog 61 128 := ⟨by kernel_rfl⟩
instance : IsAgg Try.prog 61 := ⟨by kernel_rfl⟩
instance : Zer Try.prog 61 [(48, List.replicate 48 (.int .u8 0)), (32, List.replicate 32 (.int .u8 0)), (1, [.int .u64 0]), (1, [.bool false]), (1, [.int .u64 0]), (1, [.int .u64 0]), (1, [.int .u64 0]), (1, [.int .u64 0])] := ⟨by kernel_rfl, inferInstance⟩
instance : Fld Try.prog 61 0 0 44 47 := ⟨by kernel_rfl⟩
instance : Fld Try.prog 61 1 48 24 31 := ⟨by kernel_rfl⟩
instance : Fld Try.prog 61 2 80 22 0 := ⟨by kernel_rfl⟩
instance : Fld Try.prog 61 3 81 4 0 := ⟨by kernel_rfl⟩
instance : Fld Try.prog 61 4 82 22 0 := ⟨by kernel_rfl⟩
instance : Fld Try.prog 61 5 83 22 0 := ⟨by kernel_rfl⟩
instance : Fld Try.prog 61 6 84 22 0 := ⟨by kernel_rfl⟩
instance : Fld Try.prog 61 7 85 22 0 := ⟨by kernel_rfl⟩
instance : Sz Try.prog 62 86 := ⟨by kernel_rfl⟩
instance : Bts Try.prog 62 128 := ⟨by kernel_rfl⟩
instance : IsAgg Try.prog 62 := ⟨by kernel_rfl⟩
instance : Zer Try.prog 62 [(48, List.replicate 48 (.int .u8 0)), (32, List.replicate 32 (.int .u8 0)), (1, [.int .u64 0]), (1, [.bool false]), (1, [.int .u64 0]), (1, [.int .u64 0]), (1, [.int .u64 0]), (1, [.int .u64 0])] := ⟨by kernel_rfl, inferInstance⟩
instance : Fld Try.prog 62 0 0 44 47 := ⟨by kernel_rfl⟩
instance : Fld Try.prog 62 1 48 24 31 := ⟨by kernel_rfl⟩
instance : Fld Try.prog 62 2 80 22 0 := ⟨by kernel_rfl⟩
instance : Fld Try.prog 62 3 81 4 0 := ⟨by kernel_rfl⟩
instance : Fld Try.prog 62 4 82 22 0 := ⟨by kernel_rfl⟩
instance : Fld Try.prog 62 5 83 22 0 := ⟨by kernel_rfl⟩
instance : Fld Try.prog 62 6 84 22 0 := ⟨by kernel_rfl⟩
instance : Fld Try.prog 62 7 85 22 0 := ⟨by kernel_rfl⟩
instance : Und Try.prog 63 (.array 4 22) := ⟨by kernel_rfl⟩
instance : Sz Try.prog 63 4 := ⟨by kernel_rfl⟩
instance : Bts Try.prog 63 32 := ⟨by kernel_rfl⟩
instance : IsAgg Try.prog 63 := ⟨by kernel_rfl⟩
instance : Zer Try.prog 63 [(4, List.replicate 4 (.int .u64 0))] := ⟨by kernel_rfl, inferInstance⟩
instance : Und Try.prog 66 (.slice 3) := ⟨by kernel_rfl⟩
instance : Sz Try.prog 66 1 := ⟨by kernel_rfl⟩
instance : Bts Try.prog 66 24 := ⟨by kernel_rfl⟩
instance : IsPlain Try.prog 66 := ⟨by kernel_rfl⟩
instance : Zer Try.prog 66 [(1, [.slice none 0 0])] := ⟨by kernel_rfl, inferInstance⟩
instance : Sz Try.prog 67 5 := ⟨by kernel_rfl⟩
instance : Bts Try.prog 67 104 := ⟨by kernel_rfl⟩
instance : IsAgg Try.prog 67 := ⟨by kernel_rfl⟩
instance : Zer Try.prog 67 [(1, [.slice none 0 0]), (1, [.slice none 0 0]), (1, [.slice none 0 0]), (1, [.slice none 0 0]), (1, [.int .i64 0])] := ⟨by kernel_rfl, inferInstance⟩
instance : Fld Try.prog 67 0 0 39 0 := ⟨by kernel_rfl⟩
instance : Fld Try.prog 67 1 1 39 0 := ⟨by kernel_rfl⟩
instance : Fld Try.prog 67 2 2 66 0 := ⟨by kernel_rfl⟩
instance : Fld Try.prog 67 3 3 66 0 := ⟨by kernel_rfl⟩
instance : Fld Try.prog 67 4 4 55 0 := ⟨by kernel_rfl⟩
instance : Sz Try.prog 68 5 := ⟨by kernel_rfl⟩
instance : Bts Try.prog 68 104 := ⟨by kernel_rfl⟩
instance : IsAgg Try.prog 68 := ⟨by kernel_rfl⟩
instance : Zer Try.prog 68 [(1, [.slice none 0 0]), (1, [.slice none 0 0]), (1, [.slice none 0 0]), (1, [.slice none 0 0]), (1, [.int .i64 0])] := ⟨by kernel_rfl, inferInstance⟩
instance : Fld Try.prog 68 0 0 39 0 := ⟨by kernel_rfl⟩
instance : Fld Try.prog 68 1 1 39 0 := ⟨by kernel_rfl⟩
instance : Fld Try.prog 68 2 2 66 0 := ⟨by kernel_rfl⟩
instance : Fld Try.prog 68 3 3 66 0 := ⟨by kernel_rfl⟩
instance : Fld Try.prog 68 4 4 55 0 := ⟨by kernel_rfl⟩
instance : Und Try.prog 70 (.pointer 68) := ⟨by kernel_rfl⟩
instance : Sz Try.prog 70 1 := ⟨by kernel_rfl⟩
instance : Bts Try.prog 70 8 := ⟨by kernel_rfl⟩
instance : IsPlain Try.prog 70 := ⟨by kernel_rfl⟩
instance : Zer Try.prog 70 [(1, [.pointer none])] := ⟨by kernel_rfl, inferInstance⟩
instance : Und Try.prog 71 (.pointer 49) := ⟨by kernel_rfl⟩
instance : Sz Try.prog 71 1 := ⟨by kernel_rfl⟩
instance : Bts Try.prog 71 8 := ⟨by kernel_rfl⟩
instance : IsPlain Try.prog 71 := ⟨by kernel_rfl⟩
instance : Zer Try.prog 71 [(1, [.pointer none])] := ⟨by kernel_rfl, inferInstance⟩
instance : Und Try.prog 73 (.pointer 78) := ⟨by kernel_rfl⟩
instance : Sz Try.prog 73 1 := ⟨by kernel_rfl⟩
instance : Bts Try.prog 73 8 := ⟨by kernel_rfl⟩
instance : IsPlain Try.prog 73 := ⟨by kernel_rfl⟩
instance : Zer Try.prog 73 [(1, [.pointer none])] := ⟨by kernel_rfl, inferInstance⟩
instance : Sz Try.prog 77 5 := ⟨by kernel_rfl⟩
instance : Bts Try.prog 77 72 := ⟨by kernel_rfl⟩
instance : IsAgg Try.prog 77 := ⟨by kernel_rfl⟩
instance : Zer Try.prog 77 [(1, [.slice none 0 0]), (1, [.int .i64 0]), (1, [.slice none 0 0]), (1, [.int .i64 0]), (1, [.int .i64 0])] := ⟨by kernel_rfl, inferInstance⟩
instance : Fld Try.prog 77 0 0 39 0 := ⟨by kernel_rfl⟩
instance : Fld Try.prog 77 1 1 3 0 := ⟨by kernel_rfl⟩
instance : Fld Try.prog 77 2 2 66 0 := ⟨by kernel_rfl⟩
instance : Fld Try.prog 77 3 3 3 0 := ⟨by kernel_rfl⟩
instance : Fld Try.prog 77 4 4 55 0 := ⟨by kernel_rfl⟩
instance : Sz Try.prog 78 5 := ⟨by kernel_rfl⟩
instance : Bts Try.prog 78 72 := ⟨by kernel_rfl⟩
instance : IsAgg Try.prog 78 := ⟨by kernel_rfl⟩
instance : Zer Try.prog 78 [(1, [.slice none 0 0]), (1, [.int .i64 0]), (1, [.slice none 0 0]), (1, [.int .i64 0]), (1, [.int .i64 0])] := ⟨by kernel_rfl, inferInstance⟩
instance : Fld Try.prog 78 0 0 39 0 := ⟨by kernel_rfl⟩
instance : Fld Try.prog 78 1 1 3 0 := ⟨by kernel_rfl⟩
instance : Fld Try.prog 78 2 2 66 0 := ⟨by kernel_rfl⟩
instance : Fld Try.prog 78 3 3 3 0 := ⟨by kernel_rfl⟩
instance : Fld Try.prog 78 4 4 55 0 := ⟨by kernel_rfl⟩
instance : Und Try.prog 85 (.slice 4) := ⟨by kernel_rfl⟩
instance : Sz Try.prog 85 1 := ⟨by kernel_rfl⟩
instance : Bts Try.prog 85 24 := ⟨by kernel_rfl⟩
instance : IsPlain Try.prog 85 := ⟨by kernel_rfl⟩
instance : Zer Try.prog 85 [(1, [.slice none 0 0])] := ⟨by kernel_rfl, inferInstance⟩
instance : Und Try.prog 89 (.slice 39) := ⟨by kernel_rfl⟩
instance : Sz Try.prog 89 1 := ⟨by kernel_rfl⟩
instance : Bts Try.prog 89 24 := ⟨by kernel_rfl⟩
instance : IsPlain Try.prog 89 := ⟨by kernel_rfl⟩
instance : Zer Try.prog 89 [(1, [.slice none 0 0])] := ⟨by kernel_rfl, inferInstance⟩
instance : Und Try.prog 121 (.array 8 5) := ⟨by kernel_rfl⟩
instance : Sz Try.prog 121 8 := ⟨by kernel_rfl⟩
instance : Bts Try.prog 121 8 := ⟨by kernel_rfl⟩
instance : IsAgg Try.prog 121 := ⟨by kernel_rfl⟩
instance : Zer Try.prog 121 [(8, List.replicate 8 (.int .u8 0))] := ⟨by kernel_rfl, inferInstance⟩
instance : Und Try.prog 124 (.int .u64) := ⟨by kernel_rfl⟩
instance : Sz Try.prog 124 1 := ⟨by kernel_rfl⟩
instance : Bts Try.prog 124 8 := ⟨by kernel_rfl⟩
instance : IsPlain Try.prog 124 := ⟨by kernel_rfl⟩
instance : Zer Try.prog 124 [(1, [.int .u64 0])] := ⟨by kernel_rfl, inferInstance⟩
instance : Sz Try.prog 137 4 := ⟨by kernel_rfl⟩
instance : Bts Try.prog 137 40 := ⟨by kernel_rfl⟩
instance : IsAgg Try.prog 137 := ⟨by kernel_rfl⟩
instance : Zer Try.prog 137 [(1, [.pointer none]), (1, [.pointer none]), (1, [.pointer none]), (1, [.string ⟨#[]⟩])] := ⟨by kernel_rfl, inferInstance⟩
instance : Fld Try.prog 137 0 0 17 0 := ⟨by kernel_rfl⟩
instance : Fld Try.prog 137 1 1 17 0 := ⟨by kernel_rfl⟩
instance : Fld Try.prog 137 2 2 17 0 := ⟨by kernel_rfl⟩
instance : Fld Try.prog 137 3 3 9 0 := ⟨by kernel_rfl⟩
instance : Sz Try.prog 138 4 := ⟨by kernel_rfl⟩
instance : Bts Try.prog 138 40 := ⟨by kernel_rfl⟩
instance : IsAgg Try.prog 138 := ⟨by kernel_rfl⟩
instance : Zer Try.prog 138 [(1, [.pointer none]), (1, [.pointer none]), (1, [.pointer none]), (1, [.string ⟨#[]⟩])] := ⟨by kernel_rfl, inferInstance⟩
instance : Fld Try.prog 138 0 0 17 0 := ⟨by kernel_rfl⟩
instance : Fld Try.prog 138 1 1 17 0 := ⟨by kernel_rfl⟩
instance : Fld Try.prog 138 2 2 17 0 := ⟨by kernel_rfl⟩
instance : Fld Try.prog 138 3 3 9 0 := ⟨by kernel_rfl⟩
instance : Und Try.prog 139 (.array 0 16) := ⟨by kernel_rfl⟩
instance : Sz Try.prog 139 0 := ⟨by kernel_rfl⟩
instance : Bts Try.prog 139 0 := ⟨by kernel_rfl⟩
instance : IsAgg Try.prog 139 := ⟨by kernel_rfl⟩
instance : Sz Try.prog 140 0 := ⟨by kernel_rfl⟩
instance : Bts Try.prog 140 0 := ⟨by kernel_rfl⟩
instance : IsAgg Try.prog 140 := ⟨by kernel_rfl⟩
instance : Sz Try.prog 141 0 := ⟨by kernel_rfl⟩
instance : Bts Try.prog 141 0 := ⟨by kernel_rfl⟩
instance : IsAgg Try.prog 141 := ⟨by kernel_rfl⟩
instance : Und Try.prog 143 (.int .u32) := ⟨by kernel_rfl⟩
instance : Sz Try.prog 143 1 := ⟨by kernel_rfl⟩
instance : Bts Try.prog 143 4 := ⟨by kernel_rfl⟩
instance : IsPlain Try.prog 143 := ⟨by kernel_rfl⟩
instance : Zer Try.prog 143 [(1, [.int .u32 0])] := ⟨by kernel_rfl, inferInstance⟩
instance : Und Try.prog 144 (.int .u8) := ⟨by kernel_rfl⟩
instance : Sz Try.prog 144 1 := ⟨by kernel_rfl⟩
instance : Bts Try.prog 144 1 := ⟨by kernel_rfl⟩
instance : IsPlain Try.prog 144 := ⟨by kernel_rfl⟩
instance : Zer Try.prog 144 [(1, [.int .u8 0])] := ⟨by kernel_rfl, inferInstance⟩
instance : Und Try.prog 145 (.int .u8) := ⟨by kernel_rfl⟩
instance : Sz Try.prog 145 1 := ⟨by kernel_rfl⟩
instance : Bts Try.prog 145 1 := ⟨by kernel_rfl⟩
instance : IsPlain Try.prog 145 := ⟨by kernel_rfl⟩
instance : Zer Try.prog 145 [(1, [.int .u8 0])] := ⟨by kernel_rfl, inferInstance⟩
instance : Und Try.prog 147 (.pointer 5) := ⟨by kernel_rfl⟩
instance : Sz Try.prog 147 1 := ⟨by kernel_rfl⟩
instance : Bts Try.prog 147 8 := ⟨by kernel_rfl⟩
instance : IsPlain Try.prog 147 := ⟨by kernel_rfl⟩
instance : Zer Try.prog 147 [(1, [.pointer none])] := ⟨by kernel_rfl, inferInstance⟩
instance : Und Try.prog 148 (.int .i32) := ⟨by kernel_rfl⟩
instance : Sz Try.prog 148 1 := ⟨by kernel_rfl⟩
instance : Bts Try.prog 148 4 := ⟨by kernel_rfl⟩
instance : IsPlain Try.prog 148 := ⟨by kernel_rfl⟩
instance : Zer Try.prog 148 [(1, [.int .i32 0])] := ⟨by kernel_rfl, inferInstance⟩
instance : Und Try.prog 149 (.int .i32) := ⟨by kernel_rfl⟩
instance : Sz Try.prog 149 1 := ⟨by kernel_rfl⟩
instance : Bts Try.prog 149 4 := ⟨by kernel_rfl⟩
instance : IsPlain Try.prog 149 := ⟨by kernel_rfl⟩
instance : Zer Try.prog 149 [(1, [.int .i32 0])] := ⟨by kernel_rfl, inferInstance⟩
instance : Sz Try.prog 150 11 := ⟨by kernel_rfl⟩
instance : Bts Try.prog 150 48 := ⟨by kernel_rfl⟩
instance : IsAgg Try.prog 150 := ⟨by kernel_rfl⟩
instance : Fld Try.prog 150 0 0 12 0 := ⟨by kernel_rfl⟩
instance : Fld Try.prog 150 1 1 12 0 := ⟨by kernel_rfl⟩
instance : Fld Try.prog 150 2 2 143 0 := ⟨by kernel_rfl⟩
instance : Fld Try.prog 150 3 3 144 0 := ⟨by kernel_rfl⟩
instance : Fld Try.prog 150 4 4 5 0 := ⟨by kernel_rfl⟩
instance : Fld Try.prog 150 5 5 5 0 := ⟨by kernel_rfl⟩
instance : Fld Try.prog 150 6 6 145 0 := ⟨by kernel_rfl⟩
instance : Fld Try.prog 150 8 8 147 0 := ⟨by kernel_rfl⟩
instance : Fld Try.prog 150 9 9 148 0 := ⟨by kernel_rfl⟩
instance : Fld Try.prog 150 10 10 149 0 := ⟨by kernel_rfl⟩
instance : Sz Try.prog 151 11 := ⟨by kernel_rfl⟩
instance : Bts Try.prog 151 48 := ⟨by kernel_rfl⟩
instance : IsAgg Try.prog 151 := ⟨by kernel_rfl⟩
instance : Fld Try.prog 151 0 0 12 0 := ⟨by kernel_rfl⟩
instance : Fld Try.prog 151 1 1 12 0 := ⟨by kernel_rfl⟩
instance : Fld Try.prog 151 2 2 143 0 := ⟨by kernel_rfl⟩
instance : Fld Try.prog 151 3 3 144 0 := ⟨by kernel_rfl⟩
instance : Fld Try.prog 151 4 4 5 0 := ⟨by kernel_rfl⟩
instance : Fld Try.prog 151 5 5 5 0 := ⟨by kernel_rfl⟩
instance : Fld Try.prog 151 6 6 145 0 := ⟨by kernel_rfl⟩
instance : Fld Try.prog 151 8 8 147 0 := ⟨by kernel_rfl⟩
instance : Fld Try.prog 151 9 9 148 0 := ⟨by kernel_rfl⟩
instance : Fld Try.prog 151 10 10 149 0 := ⟨by kernel_rfl⟩
instance : CallOk Try.prog 3 := ⟨by kernel_rfl⟩
instance : CallOk Try.prog 4 := ⟨by kernel_rfl⟩
instance : CallOk Try.prog 5 := ⟨by kernel_rfl⟩
instance : CallOk Try.prog 6 := ⟨by kernel_rfl⟩
instance : CallOk Try.prog 7 := ⟨by kernel_rfl⟩
instance : CallOk Try.prog 8 := ⟨by kernel_rfl⟩
instance : CallOk Try.prog 9 := ⟨by kernel_rfl⟩
instance : CallOk Try.prog 10 := ⟨by kernel_rfl⟩
instance : CallOk Try.prog 11 := ⟨by kernel_rfl⟩
instance : CallOk Try.prog 12 := ⟨by kernel_rfl⟩
instance : CallOk Try.prog 13 := ⟨by kernel_rfl⟩
instance : CallOk Try.prog 14 := ⟨by kernel_rfl⟩
instance : CallOk Try.prog 15 := ⟨by kernel_rfl⟩
instance : CallOk Try.prog 16 := ⟨by kernel_rfl⟩
instance : CallOk Try.prog 17 := ⟨by kernel_rfl⟩
instance : CallOk Try.prog 18 := ⟨by kernel_rfl⟩
instance : CallOk Try.prog 19 := ⟨by kernel_rfl⟩
instance : CallOk Try.prog 20 := ⟨by kernel_rfl⟩
instance : CallOk Try.prog 21 := ⟨by kernel_rfl⟩
instance : CallOk Try.prog 22 := ⟨by kernel_rfl⟩
instance : CallOk Try.prog 23 := ⟨by kernel_rfl⟩
instance : CallOk Try.prog 24 := ⟨by kernel_rfl⟩
instance : CallOk Try.prog 25 := ⟨by kernel_rfl⟩
instance : CallOk Try.prog 26 := ⟨by kernel_rfl⟩
instance : CallOk Try.prog 27 := ⟨by kernel_rfl⟩
instance : CallOk Try.prog 28 := ⟨by kernel_rfl⟩
instance : CallOk Try.prog 29 := ⟨by kernel_rfl⟩
instance : CallOk Try.prog 30 := ⟨by kernel_rfl⟩
instance : CallOk Try.prog 31 := ⟨by kernel_rfl⟩
instance : CallOk Try.prog 32 := ⟨by kernel_rfl⟩
instance : CallOk Try.prog 33 := ⟨by kernel_rfl⟩
instance : CallOk Try.prog 34 := ⟨by kernel_rfl⟩
instance : CallOk Try.prog 35 := ⟨by kernel_rfl⟩
instance : CallOk Try.prog 36 := ⟨by kernel_rfl⟩
instance : CallOk Try.prog 37 := ⟨by kernel_rfl⟩
instance : CallOk Try.prog 38 := ⟨by kernel_rfl⟩
instance : CallOk Try.prog 39 := ⟨by kernel_rfl⟩
instance : CallOk Try.prog 40 := ⟨by kernel_rfl⟩
instance : CallOk Try.prog 41 := ⟨by kernel_rfl⟩
instance : CallOk Try.prog 42 := ⟨by kernel_rfl⟩
instance : CallOk Try.prog 43 := ⟨by kernel_rfl⟩
instance : CallOk Try.prog 44 := ⟨by kernel_rfl⟩
instance : CallOk Try.prog 45 := ⟨by kernel_rfl⟩
instance : CallOk Try.prog 46 := ⟨by kernel_rfl⟩
instance : CallOk Try.prog 47 := ⟨by kernel_rfl⟩
instance : CallOk Try.prog 48 := ⟨by kernel_rfl⟩
instance : CallOk Try.prog 49 := ⟨by kernel_rfl⟩
instance : CallOk Try.prog 50 := ⟨by kernel_rfl⟩
instance : CallOk Try.prog 51 := ⟨by kernel_rfl⟩
instance : CallOk Try.prog 52 := ⟨by kernel_rfl⟩
instance : CallOk Try.prog 53 := ⟨by kernel_rfl⟩
instance : CallOk Try.prog 54 := ⟨by kernel_rfl⟩
instance : CallOk Try.prog 55 := ⟨by kernel_rfl⟩
instance : CallOk Try.prog 56 := ⟨by kernel_rfl⟩
instance : CallOk Try.prog 57 := ⟨by kernel_rfl⟩
instance : CallOk Try.prog 58 := ⟨by kernel_rfl⟩
instance : CallOk Try.prog 59 := ⟨by kernel_rfl⟩
instance : CallOk Try.prog 60 := ⟨by kernel_rfl⟩
instance : CallOk Try.prog 61 := ⟨by kernel_rfl⟩
instance : CallOk Try.prog 62 := ⟨by kernel_rfl⟩
instance : CallOk Try.prog 63 := ⟨by kernel_rfl⟩
instance : CallOk Try.prog 64 := ⟨by kernel_rfl⟩
instance : CallOk Try.prog 65 := ⟨by kernel_rfl⟩
instance : CallOk Try.prog 66 := ⟨by kernel_rfl⟩
instance : CallOk Try.prog 67 := ⟨by kernel_rfl⟩
instance : CallOk Try.prog 68 := ⟨by kernel_rfl⟩
instance : CallOk Try.prog 69 := ⟨by kernel_rfl⟩
instance : CallOk Try.prog 70 := ⟨by kernel_rfl⟩
instance : CallOk Try.prog 71 := ⟨by kernel_rfl⟩
instance : CallOk Try.prog 72 := ⟨by kernel_rfl⟩
instance : CallOk Try.prog 73 := ⟨by kernel_rfl⟩
instance : CallOk Try.prog 74 := ⟨by kernel_rfl⟩
theorem mixed : Try.prog.follows .mixedOrders = true := by kernel_rfl

end Go.PK

/- What values of the chain's types read as. Written by a program (genopen.py). -/
namespace Go.PK
open Go.Proofs

section
variable {H : Type} {enc : TypeId × Value → H} {w : World} {sp : Nat → Bool}

theorem readsFork {cs : List Value} {d : DataW H} (h : Reads enc Try.prog w sp 28 cs d) : ∃ x : Fork, cs = flat (forkS x) := by
  have hl := h.len
  obtain ⟨_, _, _, _, h0⟩ := h.field 0
  obtain ⟨a0, e0⟩ := h0.bytes
  obtain ⟨_, _, _, _, h1⟩ := h.field 1
  obtain ⟨a1, e1⟩ := h1.bytes
  obtain ⟨_, _, _, _, h2⟩ := h.field 2
  obtain ⟨a2, e2⟩ := h2.num64
  simp only [Nat.reduceAdd] at e0 e1 e2
  have e := chops_eq [4, 4, 1] 0 cs (by simpa using hl)
  refine ⟨⟨a0, a1, a2⟩, (List.drop_zero.symm.trans e).trans ?_⟩
  simp only [chops, Nat.reduceAdd, e0, e1, e2, flat, List.flatten_cons, List.flatten_nil]

theorem readsCheckpoint {cs : List Value} {d : DataW H} (h : Reads enc Try.prog w sp 42 cs d) : ∃ x : Checkpoint, cs = flat (ckS x) := by
  have hl := h.len
  obtain ⟨_, _, _, _, h0⟩ := h.field 0
  obtain ⟨a0, e0⟩ := h0.num64
  obtain ⟨_, _, _, _, h1⟩ := h.field 1
  obtain ⟨a1, e1⟩ := h1.bytes
  simp only [Nat.reduceAdd] at e0 e1
  have e := chops_eq [1, 32] 0 cs (by simpa using hl)
  refine ⟨⟨a0, a1⟩, (List.drop_zero.symm.trans e).trans ?_⟩
  simp only [chops, Nat.reduceAdd, e0, e1, flat, List.flatten_cons, List.flatten_nil]

theorem readsValidator {cs : List Value} {d : DataW H} (h : Reads enc Try.prog w sp 62 cs d) : ∃ x : Validator, cs = flat (valS x) := by
  have hl := h.len
  obtain ⟨_, _, _, _, h0⟩ := h.field 0
  obtain ⟨a0, e0⟩ := h0.bytes
  obtain ⟨_, _, _, _, h1⟩ := h.field 1
  obtain ⟨a1, e1⟩ := h1.bytes
  obtain ⟨_, _, _, _, h2⟩ := h.field 2
  obtain ⟨a2, e2⟩ := h2.num64
  obtain ⟨_, _, _, _, h3⟩ := h.field 3
  obtain ⟨a3, e3⟩ := h3.flag
  obtain ⟨_, _, _, _, h4⟩ := h.field 4
  obtain ⟨a4, e4⟩ := h4.num64
  obtain ⟨_, _, _, _, h5⟩ := h.field 5
  obtain ⟨a5, e5⟩ := h5.num64
  obtain ⟨_, _, _, _, h6⟩ := h.field 6
  obtain ⟨a6, e6⟩ := h6.num64
  obtain ⟨_, _, _, _, h7⟩ := h.field 7
  obtain ⟨a7, e7⟩ := h7.num64
  simp only [Nat.reduceAdd] at e0 e1 e2 e3 e4 e5 e6 e7
  have e := chops_eq [48, 32, 1, 1, 1, 1, 1, 1] 0 cs (by simpa using hl)
  refine ⟨⟨a0, a1, a2, a3, a4, a5, a6, a7⟩, (List.drop_zero.symm.trans e).trans ?_⟩
  simp only [chops, Nat.reduceAdd, e0, e1, e2, e3, e4, e5, e6, e7, flat, List.flatten_cons, List.flatten_nil]

theorem readsEth1 {cs : List Value} {d : DataW H} (h : Reads enc Try.prog w sp 34 cs d) : ∃ x : Eth1, cs = flat (eth1S x) := by
  have hl := h.len
  obtain ⟨_, _, _, _, h0⟩ := h.field 0
  obtain ⟨a0, e0⟩ := h0.bytes
  obtain ⟨_, _, _, _, h1⟩ := h.field 1
  obtain ⟨a1, e1⟩ := h1.num64
  obtain ⟨_, _, _, _, h2⟩ := h.field 2
  obtain ⟨a2, e2⟩ := h2.bytes
  simp only [Nat.reduceAdd] at e0 e1 e2
  have e := chops_eq [32, 1, 32] 0 cs (by simpa using hl)
  refine ⟨⟨a0, a1, a2⟩, (List.drop_zero.symm.trans e).trans ?_⟩
  simp only [chops, Nat.reduceAdd, e0, e1, e2, flat, List.flatten_cons, List.flatten_nil]

theorem readsHeader {cs : List Value} {d : DataW H} (h : Reads enc Try.prog w sp 30 cs d) : ∃ x : Header, cs = flat (headerS x) := by
  have hl := h.len
  obtain ⟨_, _, _, _, h0⟩ := h.field 0
  obtain ⟨a0, e0⟩ := h0.num64
  obtain ⟨_, _, _, _, h1⟩ := h.field 1
  obtain ⟨a1, e1⟩ := h1.num64
  obtain ⟨_, _, _, _, h2⟩ := h.field 2
  obtain ⟨a2, e2⟩ := h2.bytes
  obtain ⟨_, _, _, _, h3⟩ := h.field 3
  obtain ⟨a3, e3⟩ := h3.bytes
  obtain ⟨_, _, _, _, h4⟩ := h.field 4
  obtain ⟨a4, e4⟩ := h4.bytes
  simp only [Nat.reduceAdd] at e0 e1 e2 e3 e4
  have e := chops_eq [1, 1, 32, 32, 32] 0 cs (by simpa using hl)
  refine ⟨⟨a0, a1, a2, a3, a4⟩, (List.drop_zero.symm.trans e).trans ?_⟩
  simp only [chops, Nat.reduceAdd, e0, e1, e2, e3, e4, flat, List.flatten_cons, List.flatten_nil]

theorem readsCommittee {cs : List Value} {d : DataW H} (h : Reads enc Try.prog w sp 47 cs d) : ∃ x : Committee, cs = flat (commS x) := by
  have hl := h.len
  obtain ⟨_, _, _, _, h0⟩ := h.field 0
  obtain ⟨a0, e0⟩ := h0.rows
  obtain ⟨_, _, _, _, h1⟩ := h.field 1
  obtain ⟨a1, e1⟩ := h1.bytes
  simp only [Nat.reduceAdd] at e0 e1
  have e := chops_eq [384, 48] 0 cs (by simpa using hl)
  refine ⟨⟨a0, a1⟩, (List.drop_zero.symm.trans e).trans ?_⟩
  simp only [chops, Nat.reduceAdd, e0, e1, flat, List.flatten_cons, List.flatten_nil]

/-- The i-th part of a datum is a list of n elements. -/
def LenIn (ds : List (DataW H)) (i n : Nat) : Prop := ∃ d, ds[i]? = some d ∧ (n = 0 ∨ ∃ els spare, d = .slice els spare ∧ els.length = n)
theorem lenIn_of {ds : List (DataW H)} {d : DataW H} {α : Type} {i : Nat} {l : List α} (h : ds[i]? = some d) (hd : d = .nil ∧ l = [] ∨ ∃ els spare, d = .slice els spare ∧ els.length = l.length) : LenIn ds i l.length := by
  refine ⟨d, h, ?_⟩
  rcases hd with ⟨_, rfl⟩ | h
  · exact .inl rfl
  · exact .inr h
theorem cell_of_piece {cs : List Value} {k : Nat} {v : Value} (h : (cs.drop k).take 1 = [v]) : cs[k]? = some v := by
  have h1 : ((cs.drop k).take 1)[0]? = some v := by rw [h]; rfl
  rw [List.getElem?_take] at h1
  simpa using h1

/-- how long a state's lists are, told by its datum -/
structure StateIn (d : DataW H) (x : StateD) : Prop where
  h : ∃ ds, d = .agg ds ∧ LenIn ds 7 x.history.length ∧ LenIn ds 9 x.votes.length ∧ LenIn ds 11 x.validators.length ∧ LenIn ds 12 x.balances.length ∧ LenIn ds 15 x.previous.length ∧ LenIn ds 16 x.current.length ∧ LenIn ds 21 x.scores.length

theorem flatMap_u64 (l : List UInt64) : l.flatMap (fun n => [u64 n]) = l.map u64 := flatMap_single u64 l
theorem flatMap_by8 (l : List UInt8) : l.flatMap (fun n => [by8 n]) = bs l := flatMap_single by8 l
set_option maxHeartbeats 4000000 in
theorem readsState {cs : List Value} {d : DataW H} (h : Reads enc Try.prog w (fun _ => true) 49 cs d) (hspot : ∀ (i : Nat) a len cap, cs[i]? = some (.slice (some a) len cap) → a.spot = none) :
    ∃ (x : StateD) (a : Addrs), cs = flat (stateS x a) ∧ ListsAt w [] x a ∧ StateIn d x := by
  have hl := h.len
  obtain ⟨ds0, d0, q0, r0, h0⟩ := h.field 0
  obtain ⟨a0, e0⟩ := h0.num64
  obtain ⟨ds1, d1, q1, r1, h1⟩ := h.field 1
  obtain ⟨a1, e1⟩ := h1.bytes
  obtain ⟨ds2, d2, q2, r2, h2⟩ := h.field 2
  obtain ⟨a2, e2⟩ := h2.num64
  obtain ⟨ds3, d3, q3, r3, h3⟩ := h.field 3
  obtain ⟨a3, e3⟩ := readsFork h3
  obtain ⟨ds4, d4, q4, r4, h4⟩ := h.field 4
  obtain ⟨a4, e4⟩ := readsHeader h4
  obtain ⟨ds5, d5, q5, r5, h5⟩ := h.field 5
  obtain ⟨a5, e5⟩ := h5.rows
  obtain ⟨ds6, d6, q6, r6, h6⟩ := h.field 6
  obtain ⟨a6, e6⟩ := h6.rows
  obtain ⟨ds7, d7, q7, r7, h7⟩ := h.field 7
  obtain ⟨a7, p7, e7, s7, t7⟩ := h7.list bv (by decide) (fun cs d h => h.bytes) (fun a len cap he => hspot 653 a len cap (cell_of_piece he))
  obtain ⟨ds8, d8, q8, r8, h8⟩ := h.field 8
  obtain ⟨a8, e8⟩ := readsEth1 h8
  obtain ⟨ds9, d9, q9, r9, h9⟩ := h.field 9
  obtain ⟨a9, p9, e9, s9, t9⟩ := h9.list eth1C (by decide) (fun cs d h => readsEth1 h) (fun a len cap he => hspot 719 a len cap (cell_of_piece he))
  obtain ⟨ds10, d10, q10, r10, h10⟩ := h.field 10
  obtain ⟨a10, e10⟩ := h10.num64
  obtain ⟨ds11, d11, q11, r11, h11⟩ := h.field 11
  obtain ⟨a11, p11, e11, s11, t11⟩ := h11.list valC (by decide) (fun cs d h => readsValidator h) (fun a len cap he => hspot 721 a len cap (cell_of_piece he))
  obtain ⟨ds12, d12, q12, r12, h12⟩ := h.field 12
  obtain ⟨a12, p12, e12, s12, t12⟩ := h12.list (fun n => [u64 n]) (by decide) (fun cs d h => h.num64) (fun a len cap he => hspot 722 a len cap (cell_of_piece he))
  rw [flatMap_u64] at s12
  obtain ⟨ds13, d13, q13, r13, h13⟩ := h.field 13
  obtain ⟨a13, e13⟩ := h13.rows
  obtain ⟨ds14, d14, q14, r14, h14⟩ := h.field 14
  obtain ⟨a14, e14⟩ := h14.nums
  obtain ⟨ds15, d15, q15, r15, h15⟩ := h.field 15
  obtain ⟨a15, p15, e15, s15, t15⟩ := h15.list (fun n => [by8 n]) (by decide) (fun cs d h => h.num8) (fun a len cap he => hspot 987 a len cap (cell_of_piece he))
  rw [flatMap_by8] at s15
  obtain ⟨ds16, d16, q16, r16, h16⟩ := h.field 16
  obtain ⟨a16, p16, e16, s16, t16⟩ := h16.list (fun n => [by8 n]) (by decide) (fun cs d h => h.num8) (fun a len cap he => hspot 988 a len cap (cell_of_piece he))
  rw [flatMap_by8] at s16
  obtain ⟨ds17, d17, q17, r17, h17⟩ := h.field 17
  obtain ⟨a17, e17⟩ := h17.flags
  obtain ⟨ds18, d18, q18, r18, h18⟩ := h.field 18
  obtain ⟨a18, e18⟩ := readsCheckpoint h18
  obtain ⟨ds19, d19, q19, r19, h19⟩ := h.field 19
  obtain ⟨a19, e19⟩ := readsCheckpoint h19
  obtain ⟨ds20, d20, q20, r20, h20⟩ := h.field 20
  obtain ⟨a20, e20⟩ := readsCheckpoint h20
  obtain ⟨ds21, d21, q21, r21, h21⟩ := h.field 21
  obtain ⟨a21, p21, e21, s21, t21⟩ := h21.list (fun n => [u64 n]) (by decide) (fun cs d h => h.num64) (fun a len cap he => hspot 1092 a len cap (cell_of_piece he))
  rw [flatMap_u64] at s21
  obtain ⟨ds22, d22, q22, r22, h22⟩ := h.field 22
  obtain ⟨a22, e22⟩ := readsCommittee h22
  obtain ⟨ds23, d23, q23, r23, h23⟩ := h.field 23
  obtain ⟨a23, e23⟩ := readsCommittee h23
  simp only [Nat.reduceAdd] at e0 e1 e2 e3 e4 e5 e6 e7 e8 e9 e10 e11 e12 e13 e14 e15 e16 e17 e18 e19 e20 e21 e22 e23
  have e := chops_eq [1, 32, 1, 9, 98, 256, 256, 1, 65, 1, 1, 1, 1, 256, 8, 1, 1, 4, 33, 33, 33, 1, 432, 432] 0 cs (by simpa using hl)
  refine ⟨⟨a0, a1, a2, a3, a4, a5, a6, a7, a8, a9, a10, a11, a12, a13, a14, a15, a16, a17, a18, a19, a20, a21, a22, a23⟩, ⟨p7, p9, p11, p12, p15, p16, p21⟩, (List.drop_zero.symm.trans e).trans ?_, ⟨⟨s7, Sep.none⟩, ⟨s9, Sep.none⟩, ⟨s11, Sep.none⟩, ⟨s12, Sep.none⟩, ⟨s15, Sep.none⟩, ⟨s16, Sep.none⟩, ⟨s21, Sep.none⟩⟩, ?_⟩
  · simp only [chops, Nat.reduceAdd, e0, e1, e2, e3, e4, e5, e6, e7, e8, e9, e10, e11, e12, e13, e14, e15, e16, e17, e18, e19, e20, e21, e22, e23, flat, List.flatten_cons, List.flatten_nil, List.append_assoc, List.append_nil]
  · refine ⟨ds0, q0, lenIn_of (by have := q0.symm.trans q7; cases this; exact r7) t7, lenIn_of (by have := q0.symm.trans q9; cases this; exact r9) t9, lenIn_of (by have := q0.symm.trans q11; cases this; exact r11) t11, lenIn_of (by have := q0.symm.trans q12; cases this; exact r12) t12, lenIn_of (by have := q0.symm.trans q15; cases this; exact r15) t15, lenIn_of (by have := q0.symm.trans q16; cases this; exact r16) t16, lenIn_of (by have := q0.symm.trans q21; cases this; exact r21) t21⟩
end
end Go.PK

/- What the bound on an argument's bulk gives: its lists are short. -/
namespace Go.PK
open Go.Proofs Go.Proofs.Ytdmfjpjhibhmhaa

theorem bulk_part {H : Type} {d : DataW H} {l : List (DataW H)} (h : d ∈ l) : Rows.uptoBulk d ≤ Rows.uptoBulkAll l := by
  induction l with
  | nil => cases h
  | cons x r ih =>
    simp only [Rows.uptoBulkAll]
    cases List.mem_cons.1 h with
    | inl e => subst e; omega
    | inr e => have := ih e; omega
theorem bulk_one {H : Type} (d : DataW H) : 1 ≤ Rows.uptoBulk d := by
  cases d with
  | lit l => cases l <;> simp [Rows.uptoBulk]
  | nil => simp [Rows.uptoBulk]
  | ptr d => simp [Rows.uptoBulk]
  | slice elems spare => simp [Rows.uptoBulk]
  | agg parts => simp [Rows.uptoBulk]
  | iface t d => simp [Rows.uptoBulk]
  | map entries => simp [Rows.uptoBulk]
  | held h => simp [Rows.uptoBulk]
theorem bulk_length {H : Type} (l : List (DataW H)) : l.length ≤ Rows.uptoBulkAll l := by
  induction l with
  | nil => simp [Rows.uptoBulkAll]
  | cons x r ih => have := bulk_one x; simp only [Rows.uptoBulkAll, List.length_cons]; omega
theorem bulk_lenIn {H : Type} {ds : List (DataW H)} {i n : Nat} (h : LenIn ds i n) : n ≤ Rows.uptoBulkAll ds := by
  obtain ⟨d, hd, h | ⟨els, spare, rfl, rfl⟩⟩ := h
  · omega
  · have h1 := bulk_part (List.mem_of_getElem? hd)
    have h2 := bulk_length els
    simp only [Rows.uptoBulk] at h1
    omega
theorem bulk_state {H : Type} {d : DataW H} {x : StateD} (h : StateIn d x) : x.history.length ≤ Rows.uptoBulk d ∧ x.votes.length ≤ Rows.uptoBulk d ∧ x.validators.length ≤ Rows.uptoBulk d ∧ x.balances.length ≤ Rows.uptoBulk d ∧
    x.previous.length ≤ Rows.uptoBulk d ∧ x.current.length ≤ Rows.uptoBulk d ∧ x.scores.length ≤ Rows.uptoBulk d := by
  obtain ⟨ds, rfl, h1, h2, h3, h4, h5, h6, h7⟩ := h.h
  simp only [Rows.uptoBulk]
  exact ⟨Nat.le_succ_of_le (bulk_lenIn h1), Nat.le_succ_of_le (bulk_lenIn h2), Nat.le_succ_of_le (bulk_lenIn h3), Nat.le_succ_of_le (bulk_lenIn h4), Nat.le_succ_of_le (bulk_lenIn h5), Nat.le_succ_of_le (bulk_lenIn h6), Nat.le_succ_of_le (bulk_lenIn h7)⟩
theorem bulk_bound {H : Type} {l : List (DataW H)} (hk : Rows.uptoSmall H l = true) : Rows.uptoBulkAll l ≤ 1048576 := of_decide_eq_true hk
theorem bulk_head {H : Type} {d : DataW H} {l : List (DataW H)} (hk : Rows.uptoSmall H (d :: l) = true) : Rows.uptoBulk d ≤ 1048576 := by
  have := bulk_bound hk
  simp only [Rows.uptoBulkAll] at this
  omega
end Go.PK
