/- What the abstract machine knows of the types of the loaded program. -/
import Derived.Test.YtcjdckoabinndaaProg
import Derived.Test.YtcjdckoabinndaaAbs15
import Derived.KernelRfl
set_option maxRecDepth 100000
namespace Go.Proofs.Ytcjdckoabinndaa
open Go.Abs
theorem ti1 : ti Try.prog 1 = some { size := 1, bytes := 8, desc := .func, zero := .nilfn, plain := true } := by kernel_rfl
theorem ti2 : ti Try.prog 2 = some { size := 1, bytes := 8, desc := (.int .i64), zero := (.int .i64 0), plain := true } := by kernel_rfl
theorem ti3 : ti Try.prog 3 = some { size := 1, bytes := 8, desc := (.int .i64), zero := (.int .i64 0), plain := true } := by kernel_rfl
theorem ti4 : ti Try.prog 4 = some { size := 1, bytes := 1, desc := .bool, zero := (.bool false), plain := true } := by kernel_rfl
theorem ti5 : ti Try.prog 5 = some { size := 1, bytes := 1, desc := (.int .u8), zero := (.int .u8 0), plain := true } := by kernel_rfl
theorem ti6 : ti Try.prog 6 = some { size := 1, bytes := 1, desc := (.int .u8), zero := (.int .u8 0), plain := true } := by kernel_rfl
theorem ti7 : ti Try.prog 7 = some { size := 4, bytes := 24, desc := (.struct [(0, 2, false), (1, 3, false), (2, 4, false), (3, 6, false)]), zero := (.agg [(.int .i64 0), (.int .i64 0), (.bool false), (.int .u8 0)]), plain := true } := by kernel_rfl
theorem ti8 : ti Try.prog 8 = some { size := 4, bytes := 24, desc := (.struct [(0, 2, false), (1, 3, false), (2, 4, false), (3, 6, false)]), zero := (.agg [(.int .i64 0), (.int .i64 0), (.bool false), (.int .u8 0)]), plain := true } := by kernel_rfl
theorem ti9 : ti Try.prog 9 = some { size := 1, bytes := 16, desc := .string, zero := (.str []), plain := true } := by kernel_rfl
theorem ti10 : ti Try.prog 10 = some { size := 1, bytes := 16, desc := .string, zero := (.str []), plain := true } := by kernel_rfl
theorem ti11 : ti Try.prog 11 = some { size := 1, bytes := 16, desc := .string, zero := (.str []), plain := true } := by kernel_rfl
theorem ti12 : ti Try.prog 12 = some { size := 1, bytes := 8, desc := (.int .u64), zero := (.int .u64 0), plain := true } := by kernel_rfl
theorem ti13 : ti Try.prog 13 = some { size := 2, bytes := 24, desc := (.struct [(0, 9, false), (1, 12, false)]), zero := (.agg [(.str []), (.int .u64 0)]), plain := false } := by kernel_rfl
theorem ti14 : ti Try.prog 14 = some { size := 2, bytes := 24, desc := (.struct [(0, 9, false), (1, 12, false)]), zero := (.agg [(.str []), (.int .u64 0)]), plain := false } := by kernel_rfl
theorem ti15 : ti Try.prog 15 = some { size := 1, bytes := 8, desc := (.pointer 161), zero := .nilptr, plain := true } := by kernel_rfl
theorem ti16 : ti Try.prog 16 = some { size := 1, bytes := 8, desc := (.pointer 164), zero := .nilptr, plain := true } := by kernel_rfl
theorem ti17 : ti Try.prog 17 = some { size := 1, bytes := 8, desc := (.pointer 172), zero := .nilptr, plain := true } := by kernel_rfl
theorem ti18 : ti Try.prog 18 = some { size := 1, bytes := 8, desc := (.struct [(0, 17, false)]), zero := (.agg [.nilptr]), plain := false } := by kernel_rfl
theorem ti19 : ti Try.prog 19 = some { size := 1, bytes := 8, desc := (.struct [(0, 17, false)]), zero := (.agg [.nilptr]), plain := false } := by kernel_rfl
theorem ti20 : ti Try.prog 20 = some { size := 1, bytes := 16, desc := .iface, zero := .niliface, plain := true } := by kernel_rfl
theorem ti21 : ti Try.prog 21 = some { size := 1, bytes := 4, desc := (.int .i32), zero := (.int .i32 0), plain := true } := by kernel_rfl
theorem ti22 : ti Try.prog 22 = some { size := 1, bytes := 8, desc := .func, zero := .nilfn, plain := true } := by kernel_rfl
theorem ti23 : ti Try.prog 23 = some { size := 1, bytes := 24, desc := (.slice 3), zero := .nilsl, plain := true } := by kernel_rfl
theorem ti24 : ti Try.prog 24 = some { size := 1, bytes := 8, desc := (.pointer 101), zero := .nilptr, plain := true } := by kernel_rfl
theorem ti25 : ti Try.prog 25 = some { size := 1, bytes := 8, desc := (.int .i64), zero := (.int .i64 0), plain := true } := by kernel_rfl
theorem ti27 : ti Try.prog 27 = some { size := 1, bytes := 8, desc := .func, zero := .nilfn, plain := true } := by kernel_rfl
theorem ti28 : ti Try.prog 28 = some { size := 1, bytes := 8, desc := .func, zero := .nilfn, plain := true } := by kernel_rfl
theorem ti29 : ti Try.prog 29 = some { size := 2, bytes := 16, desc := (.struct [(0, 3, false), (1, 3, false)]), zero := (.agg [(.int .i64 0), (.int .i64 0)]), plain := true } := by kernel_rfl
theorem ti30 : ti Try.prog 30 = some { size := 2, bytes := 16, desc := (.struct [(0, 3, false), (1, 3, false)]), zero := (.agg [(.int .i64 0), (.int .i64 0)]), plain := true } := by kernel_rfl
theorem ti31 : ti Try.prog 31 = some { size := 10, bytes := 80, desc := (.struct [(0, 30, false), (2, 30, false), (4, 9, false), (5, 4, false), (6, 4, false), (7, 3, false), (8, 3, false), (9, 3, false)]), zero := (.agg [(.int .i64 0), (.int .i64 0), (.int .i64 0), (.int .i64 0), (.str []), (.bool false), (.bool false), (.int .i64 0), (.int .i64 0), (.int .i64 0)]), plain := true } := by kernel_rfl
theorem ti32 : ti Try.prog 32 = some { size := 10, bytes := 80, desc := (.struct [(0, 30, false), (2, 30, false), (4, 9, false), (5, 4, false), (6, 4, false), (7, 3, false), (8, 3, false), (9, 3, false)]), zero := (.agg [(.int .i64 0), (.int .i64 0), (.int .i64 0), (.int .i64 0), (.str []), (.bool false), (.bool false), (.int .i64 0), (.int .i64 0), (.int .i64 0)]), plain := true } := by kernel_rfl
theorem ti33 : ti Try.prog 33 = some { size := 1, bytes := 8, desc := .func, zero := .nilfn, plain := true } := by kernel_rfl
theorem ti34 : ti Try.prog 34 = some { size := 1, bytes := 8, desc := .func, zero := .nilfn, plain := true } := by kernel_rfl
theorem ti35 : ti Try.prog 35 = some { size := 1, bytes := 4, desc := (.int .u32), zero := (.int .u32 0), plain := true } := by kernel_rfl
theorem ti36 : ti Try.prog 36 = some { size := 1, bytes := 8, desc := (.pointer 104), zero := .nilptr, plain := true } := by kernel_rfl
theorem ti38 : ti Try.prog 38 = some { size := 1, bytes := 8, desc := .func, zero := .nilfn, plain := true } := by kernel_rfl
theorem ti39 : ti Try.prog 39 = some { size := 1, bytes := 24, desc := (.slice 35), zero := .nilsl, plain := true } := by kernel_rfl
theorem ti41 : ti Try.prog 41 = some { size := 1, bytes := 8, desc := .func, zero := .nilfn, plain := true } := by kernel_rfl
theorem ti42 : ti Try.prog 42 = some { size := 1, bytes := 24, desc := (.slice 4), zero := .nilsl, plain := true } := by kernel_rfl
theorem ti44 : ti Try.prog 44 = some { size := 1, bytes := 8, desc := .func, zero := .nilfn, plain := true } := by kernel_rfl
theorem ti45 : ti Try.prog 45 = some { size := 1, bytes := 8, desc := .func, zero := .nilfn, plain := true } := by kernel_rfl
theorem ti46 : ti Try.prog 46 = some { size := 1, bytes := 8, desc := .func, zero := .nilfn, plain := true } := by kernel_rfl
theorem ti48 : ti Try.prog 48 = some { size := 1, bytes := 8, desc := .func, zero := .nilfn, plain := true } := by kernel_rfl
theorem ti49 : ti Try.prog 49 = some { size := 1, bytes := 8, desc := .func, zero := .nilfn, plain := true } := by kernel_rfl
theorem ti50 : ti Try.prog 50 = some { size := 1, bytes := 8, desc := (.pointer 111), zero := .nilptr, plain := true } := by kernel_rfl
theorem ti52 : ti Try.prog 52 = some { size := 1, bytes := 8, desc := .func, zero := .nilfn, plain := true } := by kernel_rfl
theorem ti53 : ti Try.prog 53 = some { size := 1, bytes := 8, desc := .func, zero := .nilfn, plain := true } := by kernel_rfl
theorem ti54 : ti Try.prog 54 = some { size := 1, bytes := 8, desc := .func, zero := .nilfn, plain := true } := by kernel_rfl
theorem ti55 : ti Try.prog 55 = some { size := 1, bytes := 8, desc := .func, zero := .nilfn, plain := true } := by kernel_rfl
theorem ti56 : ti Try.prog 56 = some { size := 1, bytes := 8, desc := .func, zero := .nilfn, plain := true } := by kernel_rfl
theorem ti57 : ti Try.prog 57 = some { size := 1, bytes := 8, desc := .func, zero := .nilfn, plain := true } := by kernel_rfl
theorem ti58 : ti Try.prog 58 = some { size := 1, bytes := 8, desc := .func, zero := .nilfn, plain := true } := by kernel_rfl
theorem ti59 : ti Try.prog 59 = some { size := 10, bytes := 80, desc := (.struct [(0, 30, false), (2, 30, false), (4, 9, false), (5, 4, false), (6, 4, false), (7, 3, false), (8, 3, false), (9, 3, false)]), zero := (.agg [(.int .i64 0), (.int .i64 0), (.int .i64 0), (.int .i64 0), (.str []), (.bool false), (.bool false), (.int .i64 0), (.int .i64 0), (.int .i64 0)]), plain := true } := by kernel_rfl
theorem ti60 : ti Try.prog 60 = some { size := 1, bytes := 8, desc := .func, zero := .nilfn, plain := true } := by kernel_rfl
theorem ti61 : ti Try.prog 61 = some { size := 1, bytes := 8, desc := .func, zero := .nilfn, plain := true } := by kernel_rfl
theorem ti62 : ti Try.prog 62 = some { size := 1, bytes := 8, desc := .func, zero := .nilfn, plain := true } := by kernel_rfl
theorem ti63 : ti Try.prog 63 = some { size := 1, bytes := 8, desc := .func, zero := .nilfn, plain := true } := by kernel_rfl
theorem ti64 : ti Try.prog 64 = some { size := 1, bytes := 8, desc := .func, zero := .nilfn, plain := true } := by kernel_rfl
theorem ti65 : ti Try.prog 65 = some { size := 3, bytes := 16, desc := (.struct [(0, 35, false), (1, 35, false), (2, 3, false)]), zero := (.agg [(.int .u32 0), (.int .u32 0), (.int .i64 0)]), plain := true } := by kernel_rfl
theorem ti66 : ti Try.prog 66 = some { size := 3, bytes := 16, desc := (.struct [(0, 35, false), (1, 35, false), (2, 3, false)]), zero := (.agg [(.int .u32 0), (.int .u32 0), (.int .i64 0)]), plain := true } := by kernel_rfl
theorem ti67 : ti Try.prog 67 = some { size := 1, bytes := 24, desc := (.slice 66), zero := .nilsl, plain := true } := by kernel_rfl
theorem ti68 : ti Try.prog 68 = some { size := 3, bytes := 40, desc := (.struct [(0, 35, false), (1, 3, false), (2, 67, false)]), zero := (.agg [(.int .u32 0), (.int .i64 0), .nilsl]), plain := true } := by kernel_rfl
theorem ti69 : ti Try.prog 69 = some { size := 3, bytes := 40, desc := (.struct [(0, 35, false), (1, 3, false), (2, 67, false)]), zero := (.agg [(.int .u32 0), (.int .i64 0), .nilsl]), plain := true } := by kernel_rfl
theorem ti70 : ti Try.prog 70 = some { size := 1, bytes := 8, desc := .func, zero := .nilfn, plain := true } := by kernel_rfl
theorem ti71 : ti Try.prog 71 = some { size := 1, bytes := 24, desc := (.slice 73), zero := .nilsl, plain := true } := by kernel_rfl
theorem ti72 : ti Try.prog 72 = some { size := 4, bytes := 32, desc := (.struct [(0, 3, false), (1, 3, false), (2, 3, false), (3, 35, false)]), zero := (.agg [(.int .i64 0), (.int .i64 0), (.int .i64 0), (.int .u32 0)]), plain := true } := by kernel_rfl
theorem ti73 : ti Try.prog 73 = some { size := 4, bytes := 32, desc := (.struct [(0, 3, false), (1, 3, false), (2, 3, false), (3, 35, false)]), zero := (.agg [(.int .i64 0), (.int .i64 0), (.int .i64 0), (.int .u32 0)]), plain := true } := by kernel_rfl
theorem ti74 : ti Try.prog 74 = some { size := 1, bytes := 8, desc := .func, zero := .nilfn, plain := true } := by kernel_rfl
theorem ti76 : ti Try.prog 76 = some { size := 1, bytes := 8, desc := .func, zero := .nilfn, plain := true } := by kernel_rfl
theorem ti78 : ti Try.prog 78 = some { size := 1, bytes := 8, desc := .func, zero := .nilfn, plain := true } := by kernel_rfl
theorem ti80 : ti Try.prog 80 = some { size := 1, bytes := 8, desc := .func, zero := .nilfn, plain := true } := by kernel_rfl
theorem ti81 : ti Try.prog 81 = some { size := 1, bytes := 8, desc := .func, zero := .nilfn, plain := true } := by kernel_rfl
theorem ti82 : ti Try.prog 82 = some { size := 1, bytes := 8, desc := .func, zero := .nilfn, plain := true } := by kernel_rfl
theorem ti83 : ti Try.prog 83 = some { size := 1, bytes := 24, desc := (.slice 117), zero := .nilsl, plain := true } := by kernel_rfl
theorem ti84 : ti Try.prog 84 = some { size := 2, bytes := 32, desc := (.struct [(0, 3, false), (1, 83, false)]), zero := (.agg [(.int .i64 0), .nilsl]), plain := true } := by kernel_rfl
theorem ti85 : ti Try.prog 85 = some { size := 2, bytes := 32, desc := (.struct [(0, 3, false), (1, 83, false)]), zero := (.agg [(.int .i64 0), .nilsl]), plain := true } := by kernel_rfl
theorem ti87 : ti Try.prog 87 = some { size := 1, bytes := 8, desc := .func, zero := .nilfn, plain := true } := by kernel_rfl
theorem ti88 : ti Try.prog 88 = some { size := 1, bytes := 8, desc := .func, zero := .nilfn, plain := true } := by kernel_rfl
theorem ti89 : ti Try.prog 89 = some { size := 1, bytes := 8, desc := .func, zero := .nilfn, plain := true } := by kernel_rfl
theorem ti90 : ti Try.prog 90 = some { size := 1, bytes := 8, desc := .func, zero := .nilfn, plain := true } := by kernel_rfl
theorem ti91 : ti Try.prog 91 = some { size := 1, bytes := 24, desc := (.slice 93), zero := .nilsl, plain := true } := by kernel_rfl
theorem ti92 : ti Try.prog 92 = some { size := 12, bytes := 96, desc := (.struct [(0, 3, false), (1, 3, false), (2, 59, false)]), zero := (.agg [(.int .i64 0), (.int .i64 0), (.int .i64 0), (.int .i64 0), (.int .i64 0), (.int .i64 0), (.str []), (.bool false), (.bool false), (.int .i64 0), (.int .i64 0), (.int .i64 0)]), plain := true } := by kernel_rfl
theorem ti93 : ti Try.prog 93 = some { size := 12, bytes := 96, desc := (.struct [(0, 3, false), (1, 3, false), (2, 59, false)]), zero := (.agg [(.int .i64 0), (.int .i64 0), (.int .i64 0), (.int .i64 0), (.int .i64 0), (.int .i64 0), (.str []), (.bool false), (.bool false), (.int .i64 0), (.int .i64 0), (.int .i64 0)]), plain := true } := by kernel_rfl
theorem ti95 : ti Try.prog 95 = some { size := 1, bytes := 8, desc := .func, zero := .nilfn, plain := true } := by kernel_rfl
theorem ti96 : ti Try.prog 96 = some { size := 1, bytes := 8, desc := .func, zero := .nilfn, plain := true } := by kernel_rfl
theorem ti97 : ti Try.prog 97 = some { size := 1, bytes := 8, desc := .func, zero := .nilfn, plain := true } := by kernel_rfl
theorem ti98 : ti Try.prog 98 = some { size := 1, bytes := 8, desc := .func, zero := .nilfn, plain := true } := by kernel_rfl
theorem ti99 : ti Try.prog 99 = some { size := 1, bytes := 8, desc := (.map 3 32), zero := .nilmap, plain := true } := by kernel_rfl
theorem ti100 : ti Try.prog 100 = some { size := 2, bytes := 16, desc := (.struct [(0, 3, false), (1, 99, false)]), zero := (.agg [(.int .i64 0), .nilmap]), plain := true } := by kernel_rfl
theorem ti101 : ti Try.prog 101 = some { size := 2, bytes := 16, desc := (.struct [(0, 3, false), (1, 99, false)]), zero := (.agg [(.int .i64 0), .nilmap]), plain := true } := by kernel_rfl
theorem ti102 : ti Try.prog 102 = some { size := 1, bytes := 8, desc := (.map 35 106), zero := .nilmap, plain := true } := by kernel_rfl
theorem ti103 : ti Try.prog 103 = some { size := 3, bytes := 24, desc := (.struct [(0, 35, false), (1, 3, false), (2, 102, false)]), zero := (.agg [(.int .u32 0), (.int .i64 0), .nilmap]), plain := true } := by kernel_rfl
theorem ti104 : ti Try.prog 104 = some { size := 3, bytes := 24, desc := (.struct [(0, 35, false), (1, 3, false), (2, 102, false)]), zero := (.agg [(.int .u32 0), (.int .i64 0), .nilmap]), plain := true } := by kernel_rfl
theorem ti105 : ti Try.prog 105 = some { size := 2, bytes := 16, desc := (.struct [(0, 35, false), (1, 3, false)]), zero := (.agg [(.int .u32 0), (.int .i64 0)]), plain := true } := by kernel_rfl
theorem ti106 : ti Try.prog 106 = some { size := 2, bytes := 16, desc := (.struct [(0, 35, false), (1, 3, false)]), zero := (.agg [(.int .u32 0), (.int .i64 0)]), plain := true } := by kernel_rfl
theorem ti109 : ti Try.prog 109 = some { size := 1, bytes := 8, desc := (.map 35 113), zero := .nilmap, plain := true } := by kernel_rfl
theorem ti110 : ti Try.prog 110 = some { size := 3, bytes := 24, desc := (.struct [(0, 35, false), (1, 3, false), (2, 109, false)]), zero := (.agg [(.int .u32 0), (.int .i64 0), .nilmap]), plain := true } := by kernel_rfl
theorem ti111 : ti Try.prog 111 = some { size := 3, bytes := 24, desc := (.struct [(0, 35, false), (1, 3, false), (2, 109, false)]), zero := (.agg [(.int .u32 0), (.int .i64 0), .nilmap]), plain := true } := by kernel_rfl
theorem ti112 : ti Try.prog 112 = some { size := 2, bytes := 24, desc := (.struct [(0, 35, false), (1, 9, false)]), zero := (.agg [(.int .u32 0), (.str [])]), plain := true } := by kernel_rfl
theorem ti113 : ti Try.prog 113 = some { size := 2, bytes := 24, desc := (.struct [(0, 35, false), (1, 9, false)]), zero := (.agg [(.int .u32 0), (.str [])]), plain := true } := by kernel_rfl
theorem ti114 : ti Try.prog 114 = some { size := 1, bytes := 8, desc := .func, zero := .nilfn, plain := true } := by kernel_rfl
theorem ti115 : ti Try.prog 115 = some { size := 1, bytes := 8, desc := .func, zero := .nilfn, plain := true } := by kernel_rfl
theorem ti116 : ti Try.prog 116 = some { size := 11, bytes := 88, desc := (.struct [(0, 3, false), (1, 59, false)]), zero := (.agg [(.int .i64 0), (.int .i64 0), (.int .i64 0), (.int .i64 0), (.int .i64 0), (.str []), (.bool false), (.bool false), (.int .i64 0), (.int .i64 0), (.int .i64 0)]), plain := true } := by kernel_rfl
theorem ti117 : ti Try.prog 117 = some { size := 11, bytes := 88, desc := (.struct [(0, 3, false), (1, 59, false)]), zero := (.agg [(.int .i64 0), (.int .i64 0), (.int .i64 0), (.int .i64 0), (.int .i64 0), (.str []), (.bool false), (.bool false), (.int .i64 0), (.int .i64 0), (.int .i64 0)]), plain := true } := by kernel_rfl
theorem ti118 : ti Try.prog 118 = some { size := 1, bytes := 8, desc := .func, zero := .nilfn, plain := true } := by kernel_rfl
theorem ti119 : ti Try.prog 119 = some { size := 1, bytes := 8, desc := .func, zero := .nilfn, plain := true } := by kernel_rfl
theorem ti120 : ti Try.prog 120 = some { size := 1, bytes := 8, desc := .func, zero := .nilfn, plain := true } := by kernel_rfl
theorem ti121 : ti Try.prog 121 = some { size := 1, bytes := 8, desc := .func, zero := .nilfn, plain := true } := by kernel_rfl
theorem ti122 : ti Try.prog 122 = some { size := 1, bytes := 8, desc := .func, zero := .nilfn, plain := true } := by kernel_rfl
theorem ti124 : ti Try.prog 124 = some { size := 1, bytes := 8, desc := .func, zero := .nilfn, plain := true } := by kernel_rfl
theorem ti125 : ti Try.prog 125 = some { size := 1, bytes := 8, desc := .func, zero := .nilfn, plain := true } := by kernel_rfl
theorem ti126 : ti Try.prog 126 = some { size := 1, bytes := 8, desc := (.int .u64), zero := (.int .u64 0), plain := true } := by kernel_rfl
theorem ti127 : ti Try.prog 127 = some { size := 1, bytes := 8, desc := .func, zero := .nilfn, plain := true } := by kernel_rfl
theorem ti128 : ti Try.prog 128 = some { size := 1, bytes := 8, desc := .func, zero := .nilfn, plain := true } := by kernel_rfl
theorem ti129 : ti Try.prog 129 = some { size := 1, bytes := 8, desc := (.int .i64), zero := (.int .i64 0), plain := true } := by kernel_rfl
theorem ti131 : ti Try.prog 131 = some { size := 1, bytes := 8, desc := .func, zero := .nilfn, plain := true } := by kernel_rfl
theorem ti132 : ti Try.prog 132 = some { size := 1, bytes := 8, desc := .func, zero := .nilfn, plain := true } := by kernel_rfl
theorem ti133 : ti Try.prog 133 = some { size := 1, bytes := 8, desc := .func, zero := .nilfn, plain := true } := by kernel_rfl
theorem ti134 : ti Try.prog 134 = some { size := 1, bytes := 8, desc := .func, zero := .nilfn, plain := true } := by kernel_rfl
theorem ti136 : ti Try.prog 136 = some { size := 1, bytes := 8, desc := .func, zero := .nilfn, plain := true } := by kernel_rfl
theorem ti137 : ti Try.prog 137 = some { size := 1, bytes := 8, desc := .func, zero := .nilfn, plain := true } := by kernel_rfl
theorem ti138 : ti Try.prog 138 = some { size := 1, bytes := 8, desc := .func, zero := .nilfn, plain := true } := by kernel_rfl
theorem ti139 : ti Try.prog 139 = some { size := 1, bytes := 8, desc := (.int .u64), zero := (.int .u64 0), plain := true } := by kernel_rfl
theorem ti140 : ti Try.prog 140 = some { size := 1, bytes := 8, desc := .func, zero := .nilfn, plain := true } := by kernel_rfl
theorem ti141 : ti Try.prog 141 = some { size := 1, bytes := 8, desc := .func, zero := .nilfn, plain := true } := by kernel_rfl
theorem ti142 : ti Try.prog 142 = some { size := 1, bytes := 8, desc := (.int .u64), zero := (.int .u64 0), plain := true } := by kernel_rfl
theorem ti143 : ti Try.prog 143 = some { size := 1, bytes := 8, desc := .func, zero := .nilfn, plain := true } := by kernel_rfl
theorem ti144 : ti Try.prog 144 = some { size := 1, bytes := 8, desc := .func, zero := .nilfn, plain := true } := by kernel_rfl
theorem ti145 : ti Try.prog 145 = some { size := 1, bytes := 8, desc := .func, zero := .nilfn, plain := true } := by kernel_rfl
theorem ti146 : ti Try.prog 146 = some { size := 1, bytes := 8, desc := (.pointer 3), zero := .nilptr, plain := true } := by kernel_rfl
theorem ti147 : ti Try.prog 147 = some { size := 1, bytes := 8, desc := .func, zero := .nilfn, plain := true } := by kernel_rfl
theorem ti148 : ti Try.prog 148 = some { size := 1, bytes := 8, desc := .func, zero := .nilfn, plain := true } := by kernel_rfl
theorem ti149 : ti Try.prog 149 = some { size := 1, bytes := 8, desc := .func, zero := .nilfn, plain := true } := by kernel_rfl
theorem ti150 : ti Try.prog 150 = some { size := 1, bytes := 8, desc := .func, zero := .nilfn, plain := true } := by kernel_rfl
theorem ti151 : ti Try.prog 151 = some { size := 1, bytes := 8, desc := .func, zero := .nilfn, plain := true } := by kernel_rfl
theorem ti152 : ti Try.prog 152 = some { size := 1, bytes := 8, desc := .func, zero := .nilfn, plain := true } := by kernel_rfl
theorem ti153 : ti Try.prog 153 = some { size := 1, bytes := 8, desc := (.pointer 142), zero := .nilptr, plain := true } := by kernel_rfl
theorem ti155 : ti Try.prog 155 = some { size := 1, bytes := 8, desc := .func, zero := .nilfn, plain := true } := by kernel_rfl
theorem ti156 : ti Try.prog 156 = some { size := 1, bytes := 8, desc := .func, zero := .nilfn, plain := true } := by kernel_rfl
theorem ti157 : ti Try.prog 157 = some { size := 1, bytes := 8, desc := .func, zero := .nilfn, plain := true } := by kernel_rfl
theorem ti158 : ti Try.prog 158 = some { size := 1, bytes := 8, desc := .func, zero := .nilfn, plain := true } := by kernel_rfl
theorem ti159 : ti Try.prog 159 = some { size := 1, bytes := 8, desc := .func, zero := .nilfn, plain := true } := by kernel_rfl
theorem ti162 : ti Try.prog 162 = some { size := 0, bytes := 0, desc := (.array 0 16), zero := (.agg []), plain := true } := by kernel_rfl
theorem ti163 : ti Try.prog 163 = some { size := 0, bytes := 0, desc := (.struct [(0, 162, true)]), zero := (.agg []), plain := false } := by kernel_rfl
theorem ti164 : ti Try.prog 164 = some { size := 0, bytes := 0, desc := (.struct [(0, 162, true)]), zero := (.agg []), plain := false } := by kernel_rfl
theorem ti165 : ti Try.prog 165 = some { size := 1, bytes := 1, desc := (.int .u8), zero := (.int .u8 0), plain := true } := by kernel_rfl
theorem ti166 : ti Try.prog 166 = some { size := 1, bytes := 1, desc := (.int .u8), zero := (.int .u8 0), plain := true } := by kernel_rfl
theorem ti167 : ti Try.prog 167 = some { size := 1, bytes := 8, desc := .func, zero := .nilfn, plain := true } := by kernel_rfl
theorem ti168 : ti Try.prog 168 = some { size := 1, bytes := 8, desc := (.pointer 5), zero := .nilptr, plain := true } := by kernel_rfl
theorem ti169 : ti Try.prog 169 = some { size := 1, bytes := 4, desc := (.int .i32), zero := (.int .i32 0), plain := true } := by kernel_rfl
theorem ti170 : ti Try.prog 170 = some { size := 1, bytes := 4, desc := (.int .i32), zero := (.int .i32 0), plain := true } := by kernel_rfl
theorem ti173 : ti Try.prog 173 = some { size := 1, bytes := 8, desc := .func, zero := .nilfn, plain := true } := by kernel_rfl
end Go.Proofs.Ytcjdckoabinndaa
