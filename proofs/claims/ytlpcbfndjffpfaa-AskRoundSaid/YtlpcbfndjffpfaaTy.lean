/- What the abstract machine knows of the types of the loaded program. -/
import Derived.Test.YtlpcbfndjffpfaaProg
import Derived.Test.YtlpcbfndjffpfaaAbs26
import Derived.KernelRfl
set_option maxRecDepth 100000
namespace Go.Proofs.Ytlpcbfndjffpfaa
open Go.Abs
@[go_sem] theorem ti1 : ti Try.prog 1 = some { size := 1, bytes := 8, desc := .func, zero := .nilfn, plain := true } := by kernel_rfl
@[go_sem] theorem ti2 : ti Try.prog 2 = some { size := 1, bytes := 8, desc := (.int .i64), zero := (.int .i64 0), plain := true } := by kernel_rfl
@[go_sem] theorem ti3 : ti Try.prog 3 = some { size := 1, bytes := 8, desc := (.int .i64), zero := (.int .i64 0), plain := true } := by kernel_rfl
@[go_sem] theorem ti4 : ti Try.prog 4 = some { size := 1, bytes := 1, desc := .bool, zero := (.bool false), plain := true } := by kernel_rfl
@[go_sem] theorem ti5 : ti Try.prog 5 = some { size := 1, bytes := 1, desc := (.int .u8), zero := (.int .u8 0), plain := true } := by kernel_rfl
@[go_sem] theorem ti6 : ti Try.prog 6 = some { size := 1, bytes := 1, desc := (.int .u8), zero := (.int .u8 0), plain := true } := by kernel_rfl
@[go_sem] theorem ti7 : ti Try.prog 7 = some { size := 4, bytes := 24, desc := (.struct [(0, 2, false), (1, 3, false), (2, 4, false), (3, 6, false)]), zero := (.agg [(.int .i64 0), (.int .i64 0), (.bool false), (.int .u8 0)]), plain := true } := by kernel_rfl
@[go_sem] theorem ti8 : ti Try.prog 8 = some { size := 4, bytes := 24, desc := (.struct [(0, 2, false), (1, 3, false), (2, 4, false), (3, 6, false)]), zero := (.agg [(.int .i64 0), (.int .i64 0), (.bool false), (.int .u8 0)]), plain := true } := by kernel_rfl
@[go_sem] theorem ti9 : ti Try.prog 9 = some { size := 1, bytes := 16, desc := .string, zero := (.str []), plain := true } := by kernel_rfl
@[go_sem] theorem ti10 : ti Try.prog 10 = some { size := 1, bytes := 16, desc := .string, zero := (.str []), plain := true } := by kernel_rfl
@[go_sem] theorem ti11 : ti Try.prog 11 = some { size := 1, bytes := 16, desc := .string, zero := (.str []), plain := true } := by kernel_rfl
@[go_sem] theorem ti12 : ti Try.prog 12 = some { size := 1, bytes := 8, desc := (.int .u64), zero := (.int .u64 0), plain := true } := by kernel_rfl
@[go_sem] theorem ti13 : ti Try.prog 13 = some { size := 2, bytes := 24, desc := (.struct [(0, 9, false), (1, 12, false)]), zero := (.agg [(.str []), (.int .u64 0)]), plain := false } := by kernel_rfl
@[go_sem] theorem ti14 : ti Try.prog 14 = some { size := 2, bytes := 24, desc := (.struct [(0, 9, false), (1, 12, false)]), zero := (.agg [(.str []), (.int .u64 0)]), plain := false } := by kernel_rfl
@[go_sem] theorem ti15 : ti Try.prog 15 = some { size := 1, bytes := 8, desc := (.pointer 161), zero := .nilptr, plain := true } := by kernel_rfl
@[go_sem] theorem ti16 : ti Try.prog 16 = some { size := 1, bytes := 8, desc := (.pointer 164), zero := .nilptr, plain := true } := by kernel_rfl
@[go_sem] theorem ti17 : ti Try.prog 17 = some { size := 1, bytes := 8, desc := (.pointer 172), zero := .nilptr, plain := true } := by kernel_rfl
@[go_sem] theorem ti18 : ti Try.prog 18 = some { size := 1, bytes := 8, desc := (.struct [(0, 17, false)]), zero := (.agg [.nilptr]), plain := false } := by kernel_rfl
@[go_sem] theorem ti19 : ti Try.prog 19 = some { size := 1, bytes := 8, desc := (.struct [(0, 17, false)]), zero := (.agg [.nilptr]), plain := false } := by kernel_rfl
@[go_sem] theorem ti20 : ti Try.prog 20 = some { size := 1, bytes := 16, desc := .iface, zero := .niliface, plain := true } := by kernel_rfl
@[go_sem] theorem ti21 : ti Try.prog 21 = some { size := 1, bytes := 4, desc := (.int .i32), zero := (.int .i32 0), plain := true } := by kernel_rfl
@[go_sem] theorem ti22 : ti Try.prog 22 = some { size := 1, bytes := 24, desc := (.slice 5), zero := .nilsl, plain := true } := by kernel_rfl
@[go_sem] theorem ti23 : ti Try.prog 23 = some { size := 1, bytes := 8, desc := (.int .u64), zero := (.int .u64 0), plain := true } := by kernel_rfl
@[go_sem] theorem ti24 : ti Try.prog 24 = some { size := 1, bytes := 2, desc := (.int .u16), zero := (.int .u16 0), plain := true } := by kernel_rfl
@[go_sem] theorem ti25 : ti Try.prog 25 = some { size := 1, bytes := 8, desc := .func, zero := .nilfn, plain := true } := by kernel_rfl
@[go_sem] theorem ti26 : ti Try.prog 26 = some { size := 1, bytes := 8, desc := .func, zero := .nilfn, plain := true } := by kernel_rfl
@[go_sem] theorem ti27 : ti Try.prog 27 = some { size := 1, bytes := 8, desc := .func, zero := .nilfn, plain := true } := by kernel_rfl
@[go_sem] theorem ti28 : ti Try.prog 28 = some { size := 1, bytes := 8, desc := .func, zero := .nilfn, plain := true } := by kernel_rfl
@[go_sem] theorem ti29 : ti Try.prog 29 = some { size := 1, bytes := 4, desc := (.int .u32), zero := (.int .u32 0), plain := true } := by kernel_rfl
@[go_sem] theorem ti30 : ti Try.prog 30 = some { size := 1, bytes := 8, desc := .func, zero := .nilfn, plain := true } := by kernel_rfl
@[go_sem] theorem ti31 : ti Try.prog 31 = some { size := 1, bytes := 8, desc := .func, zero := .nilfn, plain := true } := by kernel_rfl
@[go_sem] theorem ti32 : ti Try.prog 32 = some { size := 1, bytes := 8, desc := .func, zero := .nilfn, plain := true } := by kernel_rfl
@[go_sem] theorem ti33 : ti Try.prog 33 = some { size := 1, bytes := 8, desc := .func, zero := .nilfn, plain := true } := by kernel_rfl
@[go_sem] theorem ti34 : ti Try.prog 34 = some { size := 1, bytes := 8, desc := .func, zero := .nilfn, plain := true } := by kernel_rfl
@[go_sem] theorem ti35 : ti Try.prog 35 = some { size := 1, bytes := 8, desc := .func, zero := .nilfn, plain := true } := by kernel_rfl
@[go_sem] theorem ti36 : ti Try.prog 36 = some { size := 1, bytes := 8, desc := .func, zero := .nilfn, plain := true } := by kernel_rfl
@[go_sem] theorem ti37 : ti Try.prog 37 = some { size := 1, bytes := 8, desc := .func, zero := .nilfn, plain := true } := by kernel_rfl
@[go_sem] theorem ti38 : ti Try.prog 38 = some { size := 1, bytes := 8, desc := .func, zero := .nilfn, plain := true } := by kernel_rfl
@[go_sem] theorem ti39 : ti Try.prog 39 = some { size := 1, bytes := 8, desc := .func, zero := .nilfn, plain := true } := by kernel_rfl
@[go_sem] theorem ti40 : ti Try.prog 40 = some { size := 1, bytes := 24, desc := (.slice 47), zero := .nilsl, plain := true } := by kernel_rfl
@[go_sem] theorem ti41 : ti Try.prog 41 = some { size := 1, bytes := 8, desc := (.pointer 115), zero := .nilptr, plain := true } := by kernel_rfl
@[go_sem] theorem ti42 : ti Try.prog 42 = some { size := 1, bytes := 8, desc := .func, zero := .nilfn, plain := true } := by kernel_rfl
@[go_sem] theorem ti43 : ti Try.prog 43 = some { size := 1, bytes := 8, desc := (.pointer 46), zero := .nilptr, plain := true } := by kernel_rfl
@[go_sem] theorem ti44 : ti Try.prog 44 = some { size := 1, bytes := 8, desc := (.int .i64), zero := (.int .i64 0), plain := true } := by kernel_rfl
@[go_sem] theorem ti45 : ti Try.prog 45 = some { size := 3, bytes := 40, desc := (.struct [(0, 22, false), (1, 3, false), (2, 44, false)]), zero := (.agg [.nilsl, (.int .i64 0), (.int .i64 0)]), plain := true } := by kernel_rfl
@[go_sem] theorem ti46 : ti Try.prog 46 = some { size := 3, bytes := 40, desc := (.struct [(0, 22, false), (1, 3, false), (2, 44, false)]), zero := (.agg [.nilsl, (.int .i64 0), (.int .i64 0)]), plain := true } := by kernel_rfl
@[go_sem] theorem ti47 : ti Try.prog 47 = some { size := 2, bytes := 16, desc := (.array 2 3), zero := (.agg [(.int .i64 0), (.int .i64 0)]), plain := true } := by kernel_rfl
@[go_sem] theorem ti48 : ti Try.prog 48 = some { size := 1, bytes := 8, desc := .func, zero := .nilfn, plain := true } := by kernel_rfl
@[go_sem] theorem ti49 : ti Try.prog 49 = some { size := 1, bytes := 8, desc := .func, zero := .nilfn, plain := true } := by kernel_rfl
@[go_sem] theorem ti50 : ti Try.prog 50 = some { size := 1, bytes := 8, desc := .func, zero := .nilfn, plain := true } := by kernel_rfl
@[go_sem] theorem ti51 : ti Try.prog 51 = some { size := 1, bytes := 8, desc := .func, zero := .nilfn, plain := true } := by kernel_rfl
@[go_sem] theorem ti52 : ti Try.prog 52 = some { size := 1, bytes := 8, desc := .func, zero := .nilfn, plain := true } := by kernel_rfl
@[go_sem] theorem ti53 : ti Try.prog 53 = some { size := 1, bytes := 8, desc := .func, zero := .nilfn, plain := true } := by kernel_rfl
@[go_sem] theorem ti54 : ti Try.prog 54 = some { size := 1, bytes := 8, desc := .func, zero := .nilfn, plain := true } := by kernel_rfl
@[go_sem] theorem ti55 : ti Try.prog 55 = some { size := 1, bytes := 8, desc := .func, zero := .nilfn, plain := true } := by kernel_rfl
@[go_sem] theorem ti56 : ti Try.prog 56 = some { size := 1, bytes := 8, desc := .func, zero := .nilfn, plain := true } := by kernel_rfl
@[go_sem] theorem ti57 : ti Try.prog 57 = some { size := 1, bytes := 8, desc := .func, zero := .nilfn, plain := true } := by kernel_rfl
@[go_sem] theorem ti58 : ti Try.prog 58 = some { size := 1, bytes := 24, desc := (.slice 22), zero := .nilsl, plain := true } := by kernel_rfl
@[go_sem] theorem ti59 : ti Try.prog 59 = some { size := 1, bytes := 24, desc := (.slice 3), zero := .nilsl, plain := true } := by kernel_rfl
@[go_sem] theorem ti61 : ti Try.prog 61 = some { size := 1, bytes := 8, desc := .func, zero := .nilfn, plain := true } := by kernel_rfl
@[go_sem] theorem ti62 : ti Try.prog 62 = some { size := 3, bytes := 56, desc := (.struct [(0, 58, false), (1, 22, false), (2, 44, false)]), zero := (.agg [.nilsl, .nilsl, (.int .i64 0)]), plain := true } := by kernel_rfl
@[go_sem] theorem ti63 : ti Try.prog 63 = some { size := 3, bytes := 56, desc := (.struct [(0, 58, false), (1, 22, false), (2, 44, false)]), zero := (.agg [.nilsl, .nilsl, (.int .i64 0)]), plain := true } := by kernel_rfl
@[go_sem] theorem ti64 : ti Try.prog 64 = some { size := 1, bytes := 8, desc := .func, zero := .nilfn, plain := true } := by kernel_rfl
@[go_sem] theorem ti65 : ti Try.prog 65 = some { size := 1, bytes := 8, desc := .func, zero := .nilfn, plain := true } := by kernel_rfl
@[go_sem] theorem ti66 : ti Try.prog 66 = some { size := 1, bytes := 8, desc := .func, zero := .nilfn, plain := true } := by kernel_rfl
@[go_sem] theorem ti67 : ti Try.prog 67 = some { size := 1, bytes := 8, desc := .func, zero := .nilfn, plain := true } := by kernel_rfl
@[go_sem] theorem ti68 : ti Try.prog 68 = some { size := 1, bytes := 24, desc := (.slice 23), zero := .nilsl, plain := true } := by kernel_rfl
@[go_sem] theorem ti69 : ti Try.prog 69 = some { size := 1, bytes := 8, desc := .func, zero := .nilfn, plain := true } := by kernel_rfl
@[go_sem] theorem ti70 : ti Try.prog 70 = some { size := 1, bytes := 24, desc := (.slice 9), zero := .nilsl, plain := true } := by kernel_rfl
@[go_sem] theorem ti71 : ti Try.prog 71 = some { size := 14, bytes := 152, desc := (.struct [(0, 3, false), (1, 3, false), (2, 3, false), (3, 3, false), (4, 3, false), (5, 3, false), (6, 3, false), (7, 3, false), (8, 3, false), (9, 3, false), (10, 9, false), (11, 70, false), (12, 3, false), (13, 22, false)]), zero := (.agg [(.int .i64 0), (.int .i64 0), (.int .i64 0), (.int .i64 0), (.int .i64 0), (.int .i64 0), (.int .i64 0), (.int .i64 0), (.int .i64 0), (.int .i64 0), (.str []), .nilsl, (.int .i64 0), .nilsl]), plain := true } := by kernel_rfl
@[go_sem] theorem ti72 : ti Try.prog 72 = some { size := 14, bytes := 152, desc := (.struct [(0, 3, false), (1, 3, false), (2, 3, false), (3, 3, false), (4, 3, false), (5, 3, false), (6, 3, false), (7, 3, false), (8, 3, false), (9, 3, false), (10, 9, false), (11, 70, false), (12, 3, false), (13, 22, false)]), zero := (.agg [(.int .i64 0), (.int .i64 0), (.int .i64 0), (.int .i64 0), (.int .i64 0), (.int .i64 0), (.int .i64 0), (.int .i64 0), (.int .i64 0), (.int .i64 0), (.str []), .nilsl, (.int .i64 0), .nilsl]), plain := true } := by kernel_rfl
@[go_sem] theorem ti73 : ti Try.prog 73 = some { size := 1, bytes := 8, desc := .func, zero := .nilfn, plain := true } := by kernel_rfl
@[go_sem] theorem ti74 : ti Try.prog 74 = some { size := 1, bytes := 8, desc := .func, zero := .nilfn, plain := true } := by kernel_rfl
@[go_sem] theorem ti75 : ti Try.prog 75 = some { size := 1, bytes := 24, desc := (.slice 72), zero := .nilsl, plain := true } := by kernel_rfl
@[go_sem] theorem ti76 : ti Try.prog 76 = some { size := 1, bytes := 8, desc := .func, zero := .nilfn, plain := true } := by kernel_rfl
@[go_sem] theorem ti78 : ti Try.prog 78 = some { size := 1, bytes := 8, desc := .func, zero := .nilfn, plain := true } := by kernel_rfl
@[go_sem] theorem ti79 : ti Try.prog 79 = some { size := 1, bytes := 8, desc := .func, zero := .nilfn, plain := true } := by kernel_rfl
@[go_sem] theorem ti80 : ti Try.prog 80 = some { size := 1, bytes := 8, desc := .func, zero := .nilfn, plain := true } := by kernel_rfl
@[go_sem] theorem ti81 : ti Try.prog 81 = some { size := 1, bytes := 8, desc := .func, zero := .nilfn, plain := true } := by kernel_rfl
@[go_sem] theorem ti82 : ti Try.prog 82 = some { size := 1, bytes := 8, desc := .func, zero := .nilfn, plain := true } := by kernel_rfl
@[go_sem] theorem ti83 : ti Try.prog 83 = some { size := 1, bytes := 8, desc := .func, zero := .nilfn, plain := true } := by kernel_rfl
@[go_sem] theorem ti84 : ti Try.prog 84 = some { size := 3, bytes := 24, desc := (.struct [(0, 4, false), (1, 3, false), (2, 3, false)]), zero := (.agg [(.bool false), (.int .i64 0), (.int .i64 0)]), plain := true } := by kernel_rfl
@[go_sem] theorem ti85 : ti Try.prog 85 = some { size := 3, bytes := 24, desc := (.struct [(0, 4, false), (1, 3, false), (2, 3, false)]), zero := (.agg [(.bool false), (.int .i64 0), (.int .i64 0)]), plain := true } := by kernel_rfl
@[go_sem] theorem ti86 : ti Try.prog 86 = some { size := 1, bytes := 24, desc := (.slice 85), zero := .nilsl, plain := true } := by kernel_rfl
@[go_sem] theorem ti87 : ti Try.prog 87 = some { size := 6, bytes := 56, desc := (.struct [(0, 85, false), (3, 3, false), (4, 3, false), (5, 9, false)]), zero := (.agg [(.bool false), (.int .i64 0), (.int .i64 0), (.int .i64 0), (.int .i64 0), (.str [])]), plain := true } := by kernel_rfl
@[go_sem] theorem ti88 : ti Try.prog 88 = some { size := 6, bytes := 56, desc := (.struct [(0, 85, false), (3, 3, false), (4, 3, false), (5, 9, false)]), zero := (.agg [(.bool false), (.int .i64 0), (.int .i64 0), (.int .i64 0), (.int .i64 0), (.str [])]), plain := true } := by kernel_rfl
@[go_sem] theorem ti89 : ti Try.prog 89 = some { size := 18, bytes := 192, desc := (.struct [(0, 3, false), (1, 3, false), (2, 3, false), (3, 3, false), (4, 3, false), (5, 3, false), (6, 9, false), (7, 85, false), (10, 86, false), (11, 22, false), (12, 88, false)]), zero := (.agg [(.int .i64 0), (.int .i64 0), (.int .i64 0), (.int .i64 0), (.int .i64 0), (.int .i64 0), (.str []), (.bool false), (.int .i64 0), (.int .i64 0), .nilsl, .nilsl, (.bool false), (.int .i64 0), (.int .i64 0), (.int .i64 0), (.int .i64 0), (.str [])]), plain := true } := by kernel_rfl
@[go_sem] theorem ti90 : ti Try.prog 90 = some { size := 18, bytes := 192, desc := (.struct [(0, 3, false), (1, 3, false), (2, 3, false), (3, 3, false), (4, 3, false), (5, 3, false), (6, 9, false), (7, 85, false), (10, 86, false), (11, 22, false), (12, 88, false)]), zero := (.agg [(.int .i64 0), (.int .i64 0), (.int .i64 0), (.int .i64 0), (.int .i64 0), (.int .i64 0), (.str []), (.bool false), (.int .i64 0), (.int .i64 0), .nilsl, .nilsl, (.bool false), (.int .i64 0), (.int .i64 0), (.int .i64 0), (.int .i64 0), (.str [])]), plain := true } := by kernel_rfl
@[go_sem] theorem ti91 : ti Try.prog 91 = some { size := 1, bytes := 8, desc := .func, zero := .nilfn, plain := true } := by kernel_rfl
@[go_sem] theorem ti92 : ti Try.prog 92 = some { size := 1, bytes := 8, desc := .func, zero := .nilfn, plain := true } := by kernel_rfl
@[go_sem] theorem ti93 : ti Try.prog 93 = some { size := 1, bytes := 24, desc := (.slice 90), zero := .nilsl, plain := true } := by kernel_rfl
@[go_sem] theorem ti94 : ti Try.prog 94 = some { size := 1, bytes := 8, desc := .func, zero := .nilfn, plain := true } := by kernel_rfl
@[go_sem] theorem ti95 : ti Try.prog 95 = some { size := 1, bytes := 8, desc := .func, zero := .nilfn, plain := true } := by kernel_rfl
@[go_sem] theorem ti96 : ti Try.prog 96 = some { size := 1, bytes := 8, desc := .func, zero := .nilfn, plain := true } := by kernel_rfl
@[go_sem] theorem ti97 : ti Try.prog 97 = some { size := 1, bytes := 8, desc := .func, zero := .nilfn, plain := true } := by kernel_rfl
@[go_sem] theorem ti98 : ti Try.prog 98 = some { size := 1, bytes := 8, desc := .func, zero := .nilfn, plain := true } := by kernel_rfl
@[go_sem] theorem ti99 : ti Try.prog 99 = some { size := 1, bytes := 8, desc := .func, zero := .nilfn, plain := true } := by kernel_rfl
@[go_sem] theorem ti100 : ti Try.prog 100 = some { size := 1, bytes := 8, desc := .func, zero := .nilfn, plain := true } := by kernel_rfl
@[go_sem] theorem ti101 : ti Try.prog 101 = some { size := 1, bytes := 8, desc := .func, zero := .nilfn, plain := true } := by kernel_rfl
@[go_sem] theorem ti103 : ti Try.prog 103 = some { size := 1, bytes := 8, desc := .func, zero := .nilfn, plain := true } := by kernel_rfl
@[go_sem] theorem ti104 : ti Try.prog 104 = some { size := 1, bytes := 8, desc := .func, zero := .nilfn, plain := true } := by kernel_rfl
@[go_sem] theorem ti105 : ti Try.prog 105 = some { size := 1, bytes := 8, desc := .func, zero := .nilfn, plain := true } := by kernel_rfl
@[go_sem] theorem ti107 : ti Try.prog 107 = some { size := 1, bytes := 8, desc := .func, zero := .nilfn, plain := true } := by kernel_rfl
@[go_sem] theorem ti108 : ti Try.prog 108 = some { size := 1, bytes := 8, desc := .func, zero := .nilfn, plain := true } := by kernel_rfl
@[go_sem] theorem ti109 : ti Try.prog 109 = some { size := 1, bytes := 8, desc := .func, zero := .nilfn, plain := true } := by kernel_rfl
@[go_sem] theorem ti110 : ti Try.prog 110 = some { size := 1, bytes := 8, desc := .func, zero := .nilfn, plain := true } := by kernel_rfl
@[go_sem] theorem ti111 : ti Try.prog 111 = some { size := 1, bytes := 8, desc := .func, zero := .nilfn, plain := true } := by kernel_rfl
@[go_sem] theorem ti112 : ti Try.prog 112 = some { size := 1, bytes := 8, desc := .func, zero := .nilfn, plain := true } := by kernel_rfl
@[go_sem] theorem ti113 : ti Try.prog 113 = some { size := 1, bytes := 8, desc := .func, zero := .nilfn, plain := true } := by kernel_rfl
@[go_sem] theorem ti114 : ti Try.prog 114 = some { size := 2, bytes := 32, desc := (.struct [(0, 22, false), (1, 44, false)]), zero := (.agg [.nilsl, (.int .i64 0)]), plain := true } := by kernel_rfl
@[go_sem] theorem ti115 : ti Try.prog 115 = some { size := 2, bytes := 32, desc := (.struct [(0, 22, false), (1, 44, false)]), zero := (.agg [.nilsl, (.int .i64 0)]), plain := true } := by kernel_rfl
@[go_sem] theorem ti116 : ti Try.prog 116 = some { size := 1, bytes := 8, desc := .func, zero := .nilfn, plain := true } := by kernel_rfl
@[go_sem] theorem ti117 : ti Try.prog 117 = some { size := 1, bytes := 8, desc := .func, zero := .nilfn, plain := true } := by kernel_rfl
@[go_sem] theorem ti118 : ti Try.prog 118 = some { size := 1, bytes := 8, desc := .func, zero := .nilfn, plain := true } := by kernel_rfl
@[go_sem] theorem ti119 : ti Try.prog 119 = some { size := 1, bytes := 8, desc := .func, zero := .nilfn, plain := true } := by kernel_rfl
@[go_sem] theorem ti120 : ti Try.prog 120 = some { size := 1, bytes := 8, desc := .func, zero := .nilfn, plain := true } := by kernel_rfl
@[go_sem] theorem ti121 : ti Try.prog 121 = some { size := 1, bytes := 8, desc := .func, zero := .nilfn, plain := true } := by kernel_rfl
@[go_sem] theorem ti122 : ti Try.prog 122 = some { size := 1, bytes := 8, desc := .func, zero := .nilfn, plain := true } := by kernel_rfl
@[go_sem] theorem ti124 : ti Try.prog 124 = some { size := 1, bytes := 8, desc := .func, zero := .nilfn, plain := true } := by kernel_rfl
@[go_sem] theorem ti125 : ti Try.prog 125 = some { size := 1, bytes := 8, desc := .func, zero := .nilfn, plain := true } := by kernel_rfl
@[go_sem] theorem ti126 : ti Try.prog 126 = some { size := 1, bytes := 8, desc := .func, zero := .nilfn, plain := true } := by kernel_rfl
@[go_sem] theorem ti127 : ti Try.prog 127 = some { size := 1, bytes := 8, desc := .func, zero := .nilfn, plain := true } := by kernel_rfl
@[go_sem] theorem ti128 : ti Try.prog 128 = some { size := 1, bytes := 8, desc := .func, zero := .nilfn, plain := true } := by kernel_rfl
@[go_sem] theorem ti129 : ti Try.prog 129 = some { size := 1, bytes := 8, desc := .func, zero := .nilfn, plain := true } := by kernel_rfl
@[go_sem] theorem ti130 : ti Try.prog 130 = some { size := 1, bytes := 8, desc := .func, zero := .nilfn, plain := true } := by kernel_rfl
@[go_sem] theorem ti131 : ti Try.prog 131 = some { size := 1, bytes := 8, desc := .func, zero := .nilfn, plain := true } := by kernel_rfl
@[go_sem] theorem ti132 : ti Try.prog 132 = some { size := 1, bytes := 8, desc := .func, zero := .nilfn, plain := true } := by kernel_rfl
@[go_sem] theorem ti133 : ti Try.prog 133 = some { size := 1, bytes := 8, desc := .func, zero := .nilfn, plain := true } := by kernel_rfl
@[go_sem] theorem ti134 : ti Try.prog 134 = some { size := 1, bytes := 8, desc := .func, zero := .nilfn, plain := true } := by kernel_rfl
@[go_sem] theorem ti135 : ti Try.prog 135 = some { size := 1, bytes := 8, desc := .func, zero := .nilfn, plain := true } := by kernel_rfl
@[go_sem] theorem ti136 : ti Try.prog 136 = some { size := 1, bytes := 8, desc := (.pointer 72), zero := .nilptr, plain := true } := by kernel_rfl
@[go_sem] theorem ti137 : ti Try.prog 137 = some { size := 1, bytes := 8, desc := .func, zero := .nilfn, plain := true } := by kernel_rfl
@[go_sem] theorem ti138 : ti Try.prog 138 = some { size := 1, bytes := 8, desc := (.pointer 140), zero := .nilptr, plain := true } := by kernel_rfl
@[go_sem] theorem ti141 : ti Try.prog 141 = some { size := 1, bytes := 8, desc := .func, zero := .nilfn, plain := true } := by kernel_rfl
@[go_sem] theorem ti142 : ti Try.prog 142 = some { size := 1, bytes := 8, desc := (.pointer 90), zero := .nilptr, plain := true } := by kernel_rfl
@[go_sem] theorem ti143 : ti Try.prog 143 = some { size := 1, bytes := 8, desc := .func, zero := .nilfn, plain := true } := by kernel_rfl
@[go_sem] theorem ti144 : ti Try.prog 144 = some { size := 1, bytes := 8, desc := .func, zero := .nilfn, plain := true } := by kernel_rfl
@[go_sem] theorem ti145 : ti Try.prog 145 = some { size := 1, bytes := 8, desc := .func, zero := .nilfn, plain := true } := by kernel_rfl
@[go_sem] theorem ti146 : ti Try.prog 146 = some { size := 1, bytes := 8, desc := .func, zero := .nilfn, plain := true } := by kernel_rfl
@[go_sem] theorem ti147 : ti Try.prog 147 = some { size := 1, bytes := 8, desc := (.map 3 146), zero := .nilmap, plain := true } := by kernel_rfl
@[go_sem] theorem ti148 : ti Try.prog 148 = some { size := 1, bytes := 8, desc := .func, zero := .nilfn, plain := true } := by kernel_rfl
@[go_sem] theorem ti149 : ti Try.prog 149 = some { size := 1, bytes := 8, desc := .func, zero := .nilfn, plain := true } := by kernel_rfl
@[go_sem] theorem ti150 : ti Try.prog 150 = some { size := 1, bytes := 8, desc := .func, zero := .nilfn, plain := true } := by kernel_rfl
@[go_sem] theorem ti151 : ti Try.prog 151 = some { size := 1, bytes := 8, desc := .func, zero := .nilfn, plain := true } := by kernel_rfl
@[go_sem] theorem ti152 : ti Try.prog 152 = some { size := 1, bytes := 8, desc := .func, zero := .nilfn, plain := true } := by kernel_rfl
@[go_sem] theorem ti153 : ti Try.prog 153 = some { size := 1, bytes := 8, desc := .func, zero := .nilfn, plain := true } := by kernel_rfl
@[go_sem] theorem ti154 : ti Try.prog 154 = some { size := 1, bytes := 8, desc := .func, zero := .nilfn, plain := true } := by kernel_rfl
@[go_sem] theorem ti156 : ti Try.prog 156 = some { size := 1, bytes := 8, desc := .func, zero := .nilfn, plain := true } := by kernel_rfl
@[go_sem] theorem ti157 : ti Try.prog 157 = some { size := 1, bytes := 8, desc := .func, zero := .nilfn, plain := true } := by kernel_rfl
@[go_sem] theorem ti158 : ti Try.prog 158 = some { size := 1, bytes := 8, desc := .func, zero := .nilfn, plain := true } := by kernel_rfl
@[go_sem] theorem ti159 : ti Try.prog 159 = some { size := 1, bytes := 8, desc := .func, zero := .nilfn, plain := true } := by kernel_rfl
@[go_sem] theorem ti162 : ti Try.prog 162 = some { size := 0, bytes := 0, desc := (.array 0 16), zero := (.agg []), plain := true } := by kernel_rfl
@[go_sem] theorem ti163 : ti Try.prog 163 = some { size := 0, bytes := 0, desc := (.struct [(0, 162, true)]), zero := (.agg []), plain := false } := by kernel_rfl
@[go_sem] theorem ti164 : ti Try.prog 164 = some { size := 0, bytes := 0, desc := (.struct [(0, 162, true)]), zero := (.agg []), plain := false } := by kernel_rfl
@[go_sem] theorem ti165 : ti Try.prog 165 = some { size := 1, bytes := 1, desc := (.int .u8), zero := (.int .u8 0), plain := true } := by kernel_rfl
@[go_sem] theorem ti166 : ti Try.prog 166 = some { size := 1, bytes := 1, desc := (.int .u8), zero := (.int .u8 0), plain := true } := by kernel_rfl
@[go_sem] theorem ti167 : ti Try.prog 167 = some { size := 1, bytes := 8, desc := .func, zero := .nilfn, plain := true } := by kernel_rfl
@[go_sem] theorem ti168 : ti Try.prog 168 = some { size := 1, bytes := 8, desc := (.pointer 5), zero := .nilptr, plain := true } := by kernel_rfl
@[go_sem] theorem ti169 : ti Try.prog 169 = some { size := 1, bytes := 4, desc := (.int .i32), zero := (.int .i32 0), plain := true } := by kernel_rfl
@[go_sem] theorem ti170 : ti Try.prog 170 = some { size := 1, bytes := 4, desc := (.int .i32), zero := (.int .i32 0), plain := true } := by kernel_rfl
@[go_sem] theorem eqb4 {p q cx cy : Bool} : binG Try.prog .eql 4 cx cy (.bool p) (.bool q) = some (.bool (p == q)) := eq_bool ti4 rfl
@[go_sem] theorem neb4 {p q cx cy : Bool} : binG Try.prog .neq 4 cx cy (.bool p) (.bool q) = some (.bool (!(p == q))) := ne_bool ti4 rfl
@[go_sem] theorem lens9 {l : List UInt8} {M : Mem} : lenA Try.prog 9 (.str l) M = some (.int .i64 l.length) := len_str ti9 rfl
@[go_sem] theorem lens10 {l : List UInt8} {M : Mem} : lenA Try.prog 10 (.str l) M = some (.int .i64 l.length) := len_str ti10 rfl
@[go_sem] theorem lens11 {l : List UInt8} {M : Mem} : lenA Try.prog 11 (.str l) M = some (.int .i64 l.length) := len_str ti11 rfl
@[go_sem] theorem eqp15 {a : AA} {cx cy : Bool} : binG Try.prog .eql 15 cx cy (.ptr a) .nilptr = some (.bool false) := eq_ptr ti15 rfl
@[go_sem] theorem nep15 {a : AA} {cx cy : Bool} : binG Try.prog .neq 15 cx cy (.ptr a) .nilptr = some (.bool true) := ne_ptr ti15 rfl
@[go_sem] theorem eqn15 {cx cy : Bool} : binG Try.prog .eql 15 cx cy .nilptr .nilptr = some (.bool true) := eq_nilptr ti15 rfl
@[go_sem] theorem nen15 {cx cy : Bool} : binG Try.prog .neq 15 cx cy .nilptr .nilptr = some (.bool false) := ne_nilptr ti15 rfl
@[go_sem] theorem eqp16 {a : AA} {cx cy : Bool} : binG Try.prog .eql 16 cx cy (.ptr a) .nilptr = some (.bool false) := eq_ptr ti16 rfl
@[go_sem] theorem nep16 {a : AA} {cx cy : Bool} : binG Try.prog .neq 16 cx cy (.ptr a) .nilptr = some (.bool true) := ne_ptr ti16 rfl
@[go_sem] theorem eqn16 {cx cy : Bool} : binG Try.prog .eql 16 cx cy .nilptr .nilptr = some (.bool true) := eq_nilptr ti16 rfl
@[go_sem] theorem nen16 {cx cy : Bool} : binG Try.prog .neq 16 cx cy .nilptr .nilptr = some (.bool false) := ne_nilptr ti16 rfl
@[go_sem] theorem eqp17 {a : AA} {cx cy : Bool} : binG Try.prog .eql 17 cx cy (.ptr a) .nilptr = some (.bool false) := eq_ptr ti17 rfl
@[go_sem] theorem nep17 {a : AA} {cx cy : Bool} : binG Try.prog .neq 17 cx cy (.ptr a) .nilptr = some (.bool true) := ne_ptr ti17 rfl
@[go_sem] theorem eqn17 {cx cy : Bool} : binG Try.prog .eql 17 cx cy .nilptr .nilptr = some (.bool true) := eq_nilptr ti17 rfl
@[go_sem] theorem nen17 {cx cy : Bool} : binG Try.prog .neq 17 cx cy .nilptr .nilptr = some (.bool false) := ne_nilptr ti17 rfl
@[go_sem] theorem eqp41 {a : AA} {cx cy : Bool} : binG Try.prog .eql 41 cx cy (.ptr a) .nilptr = some (.bool false) := eq_ptr ti41 rfl
@[go_sem] theorem nep41 {a : AA} {cx cy : Bool} : binG Try.prog .neq 41 cx cy (.ptr a) .nilptr = some (.bool true) := ne_ptr ti41 rfl
@[go_sem] theorem eqn41 {cx cy : Bool} : binG Try.prog .eql 41 cx cy .nilptr .nilptr = some (.bool true) := eq_nilptr ti41 rfl
@[go_sem] theorem nen41 {cx cy : Bool} : binG Try.prog .neq 41 cx cy .nilptr .nilptr = some (.bool false) := ne_nilptr ti41 rfl
@[go_sem] theorem eqp43 {a : AA} {cx cy : Bool} : binG Try.prog .eql 43 cx cy (.ptr a) .nilptr = some (.bool false) := eq_ptr ti43 rfl
@[go_sem] theorem nep43 {a : AA} {cx cy : Bool} : binG Try.prog .neq 43 cx cy (.ptr a) .nilptr = some (.bool true) := ne_ptr ti43 rfl
@[go_sem] theorem eqn43 {cx cy : Bool} : binG Try.prog .eql 43 cx cy .nilptr .nilptr = some (.bool true) := eq_nilptr ti43 rfl
@[go_sem] theorem nen43 {cx cy : Bool} : binG Try.prog .neq 43 cx cy .nilptr .nilptr = some (.bool false) := ne_nilptr ti43 rfl
@[go_sem] theorem eqp136 {a : AA} {cx cy : Bool} : binG Try.prog .eql 136 cx cy (.ptr a) .nilptr = some (.bool false) := eq_ptr ti136 rfl
@[go_sem] theorem nep136 {a : AA} {cx cy : Bool} : binG Try.prog .neq 136 cx cy (.ptr a) .nilptr = some (.bool true) := ne_ptr ti136 rfl
@[go_sem] theorem eqn136 {cx cy : Bool} : binG Try.prog .eql 136 cx cy .nilptr .nilptr = some (.bool true) := eq_nilptr ti136 rfl
@[go_sem] theorem nen136 {cx cy : Bool} : binG Try.prog .neq 136 cx cy .nilptr .nilptr = some (.bool false) := ne_nilptr ti136 rfl
@[go_sem] theorem eqp138 {a : AA} {cx cy : Bool} : binG Try.prog .eql 138 cx cy (.ptr a) .nilptr = some (.bool false) := eq_ptr ti138 rfl
@[go_sem] theorem nep138 {a : AA} {cx cy : Bool} : binG Try.prog .neq 138 cx cy (.ptr a) .nilptr = some (.bool true) := ne_ptr ti138 rfl
@[go_sem] theorem eqn138 {cx cy : Bool} : binG Try.prog .eql 138 cx cy .nilptr .nilptr = some (.bool true) := eq_nilptr ti138 rfl
@[go_sem] theorem nen138 {cx cy : Bool} : binG Try.prog .neq 138 cx cy .nilptr .nilptr = some (.bool false) := ne_nilptr ti138 rfl
@[go_sem] theorem eqp142 {a : AA} {cx cy : Bool} : binG Try.prog .eql 142 cx cy (.ptr a) .nilptr = some (.bool false) := eq_ptr ti142 rfl
@[go_sem] theorem nep142 {a : AA} {cx cy : Bool} : binG Try.prog .neq 142 cx cy (.ptr a) .nilptr = some (.bool true) := ne_ptr ti142 rfl
@[go_sem] theorem eqn142 {cx cy : Bool} : binG Try.prog .eql 142 cx cy .nilptr .nilptr = some (.bool true) := eq_nilptr ti142 rfl
@[go_sem] theorem nen142 {cx cy : Bool} : binG Try.prog .neq 142 cx cy .nilptr .nilptr = some (.bool false) := ne_nilptr ti142 rfl
@[go_sem] theorem eqp168 {a : AA} {cx cy : Bool} : binG Try.prog .eql 168 cx cy (.ptr a) .nilptr = some (.bool false) := eq_ptr ti168 rfl
@[go_sem] theorem nep168 {a : AA} {cx cy : Bool} : binG Try.prog .neq 168 cx cy (.ptr a) .nilptr = some (.bool true) := ne_ptr ti168 rfl
@[go_sem] theorem eqn168 {cx cy : Bool} : binG Try.prog .eql 168 cx cy .nilptr .nilptr = some (.bool true) := eq_nilptr ti168 rfl
@[go_sem] theorem nen168 {cx cy : Bool} : binG Try.prog .neq 168 cx cy .nilptr .nilptr = some (.bool false) := ne_nilptr ti168 rfl
end Go.Proofs.Ytlpcbfndjffpfaa
