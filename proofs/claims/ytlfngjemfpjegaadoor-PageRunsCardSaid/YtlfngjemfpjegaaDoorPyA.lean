/- Seat g16: the types' table. -/
import Derived.Test.YtlfngjemfpjegaaDoorProg
import Derived.Test.YtlfngjemfpjegaaDoorPyB
namespace Go.Proofs.YtlfngjemfpjegaaDoor.Px
open Go Go.RowKit Go.Proofs
set_option maxRecDepth 4000
theorem mixd : Tryd.prog.follows .mixedOrders = true := by kernel_rfl
theorem ti0 : tinf Tryd.prog 0 = some { sz := 1, agg := false, bytes := 0, zero := PV.bad, kd := TK.other } := by kernel_rfl
theorem ti1 : tinf Tryd.prog 1 = some { sz := 1, agg := false, bytes := 8, zero := PV.nilfunc, kd := TK.func } := by kernel_rfl
theorem ti2 : tinf Tryd.prog 2 = some { sz := 1, agg := false, bytes := 8, zero := PV.int IntKind.i64 (0), kd := TK.int IntKind.i64 } := by kernel_rfl
theorem ti3 : tinf Tryd.prog 3 = some { sz := 1, agg := false, bytes := 8, zero := PV.int IntKind.i64 (0), kd := TK.int IntKind.i64 } := by kernel_rfl
theorem ti4 : tinf Tryd.prog 4 = some { sz := 1, agg := false, bytes := 1, zero := PV.bool false, kd := TK.bool } := by kernel_rfl
theorem ti5 : tinf Tryd.prog 5 = some { sz := 1, agg := false, bytes := 1, zero := PV.int IntKind.u8 (0), kd := TK.int IntKind.u8 } := by kernel_rfl
theorem ti6 : tinf Tryd.prog 6 = some { sz := 1, agg := false, bytes := 1, zero := PV.int IntKind.u8 (0), kd := TK.int IntKind.u8 } := by kernel_rfl
theorem ti7 : tinf Tryd.prog 7 = some { sz := 4, agg := true, bytes := 24, zero := PV.agg [PV.int IntKind.i64 (0), PV.int IntKind.i64 (0), PV.bool false, PV.int IntKind.u8 (0)], kd := TK.struct [{ off := 0, sz := 1, agg := false }, { off := 1, sz := 1, agg := false }, { off := 2, sz := 1, agg := false }, { off := 3, sz := 1, agg := false }] } := by kernel_rfl
theorem ti8 : tinf Tryd.prog 8 = some { sz := 4, agg := true, bytes := 24, zero := PV.agg [PV.int IntKind.i64 (0), PV.int IntKind.i64 (0), PV.bool false, PV.int IntKind.u8 (0)], kd := TK.struct [{ off := 0, sz := 1, agg := false }, { off := 1, sz := 1, agg := false }, { off := 2, sz := 1, agg := false }, { off := 3, sz := 1, agg := false }] } := by kernel_rfl
theorem ti9 : tinf Tryd.prog 9 = some { sz := 1, agg := false, bytes := 16, zero := PV.str ⟨#[]⟩, kd := TK.str } := by kernel_rfl
theorem ti10 : tinf Tryd.prog 10 = some { sz := 1, agg := false, bytes := 16, zero := PV.str ⟨#[]⟩, kd := TK.str } := by kernel_rfl
theorem ti11 : tinf Tryd.prog 11 = some { sz := 1, agg := false, bytes := 16, zero := PV.str ⟨#[]⟩, kd := TK.str } := by kernel_rfl
theorem ti12 : tinf Tryd.prog 12 = some { sz := 1, agg := false, bytes := 8, zero := PV.int IntKind.u64 (0), kd := TK.int IntKind.u64 } := by kernel_rfl
theorem ti13 : tinf Tryd.prog 13 = some { sz := 2, agg := true, bytes := 24, zero := PV.agg [PV.str ⟨#[]⟩, PV.int IntKind.u64 (0)], kd := TK.struct [{ off := 0, sz := 1, agg := false }, { off := 1, sz := 1, agg := false }] } := by kernel_rfl
theorem ti14 : tinf Tryd.prog 14 = some { sz := 2, agg := true, bytes := 24, zero := PV.agg [PV.str ⟨#[]⟩, PV.int IntKind.u64 (0)], kd := TK.struct [{ off := 0, sz := 1, agg := false }, { off := 1, sz := 1, agg := false }] } := by kernel_rfl
theorem ti15 : tinf Tryd.prog 15 = some { sz := 1, agg := false, bytes := 8, zero := PV.nilptr, kd := TK.ptr 160 } := by kernel_rfl
theorem ti16 : tinf Tryd.prog 16 = some { sz := 1, agg := false, bytes := 8, zero := PV.nilptr, kd := TK.ptr 163 } := by kernel_rfl
theorem ti17 : tinf Tryd.prog 17 = some { sz := 1, agg := false, bytes := 8, zero := PV.nilptr, kd := TK.ptr 172 } := by kernel_rfl
theorem ti18 : tinf Tryd.prog 18 = some { sz := 1, agg := true, bytes := 8, zero := PV.agg [PV.nilptr], kd := TK.struct [{ off := 0, sz := 1, agg := false }] } := by kernel_rfl
theorem ti19 : tinf Tryd.prog 19 = some { sz := 1, agg := true, bytes := 8, zero := PV.agg [PV.nilptr], kd := TK.struct [{ off := 0, sz := 1, agg := false }] } := by kernel_rfl
theorem ti20 : tinf Tryd.prog 20 = some { sz := 1, agg := false, bytes := 16, zero := PV.niliface, kd := TK.iface } := by kernel_rfl
theorem ti21 : tinf Tryd.prog 21 = some { sz := 1, agg := false, bytes := 4, zero := PV.int IntKind.i32 (0), kd := TK.int IntKind.i32 } := by kernel_rfl
theorem ti22 : tinf Tryd.prog 22 = some { sz := 1, agg := false, bytes := 24, zero := PV.nil0, kd := TK.slice 47 } := by kernel_rfl
theorem ti23 : tinf Tryd.prog 23 = some { sz := 1, agg := false, bytes := 24, zero := PV.nil0, kd := TK.slice 25 } := by kernel_rfl
theorem ti24 : tinf Tryd.prog 24 = some { sz := 6, agg := true, bytes := 96, zero := PV.agg [PV.int IntKind.i64 (0), PV.int IntKind.i64 (0), PV.str ⟨#[]⟩, PV.str ⟨#[]⟩, PV.nil0, PV.nil0], kd := TK.struct [{ off := 0, sz := 1, agg := false }, { off := 1, sz := 1, agg := false }, { off := 2, sz := 1, agg := false }, { off := 3, sz := 1, agg := false }, { off := 4, sz := 1, agg := false }, { off := 5, sz := 1, agg := false }] } := by kernel_rfl
theorem ti25 : tinf Tryd.prog 25 = some { sz := 6, agg := true, bytes := 96, zero := PV.agg [PV.int IntKind.i64 (0), PV.int IntKind.i64 (0), PV.str ⟨#[]⟩, PV.str ⟨#[]⟩, PV.nil0, PV.nil0], kd := TK.struct [{ off := 0, sz := 1, agg := false }, { off := 1, sz := 1, agg := false }, { off := 2, sz := 1, agg := false }, { off := 3, sz := 1, agg := false }, { off := 4, sz := 1, agg := false }, { off := 5, sz := 1, agg := false }] } := by kernel_rfl
theorem ti26 : tinf Tryd.prog 26 = some { sz := 1, agg := false, bytes := 24, zero := PV.nil0, kd := TK.slice 28 } := by kernel_rfl
theorem ti27 : tinf Tryd.prog 27 = some { sz := 5, agg := true, bytes := 96, zero := PV.agg [PV.str ⟨#[]⟩, PV.str ⟨#[]⟩, PV.str ⟨#[]⟩, PV.nil0, PV.nil0], kd := TK.struct [{ off := 0, sz := 1, agg := false }, { off := 1, sz := 1, agg := false }, { off := 2, sz := 1, agg := false }, { off := 3, sz := 1, agg := false }, { off := 4, sz := 1, agg := false }] } := by kernel_rfl
theorem ti28 : tinf Tryd.prog 28 = some { sz := 5, agg := true, bytes := 96, zero := PV.agg [PV.str ⟨#[]⟩, PV.str ⟨#[]⟩, PV.str ⟨#[]⟩, PV.nil0, PV.nil0], kd := TK.struct [{ off := 0, sz := 1, agg := false }, { off := 1, sz := 1, agg := false }, { off := 2, sz := 1, agg := false }, { off := 3, sz := 1, agg := false }, { off := 4, sz := 1, agg := false }] } := by kernel_rfl
theorem ti29 : tinf Tryd.prog 29 = some { sz := 1, agg := false, bytes := 8, zero := PV.int IntKind.i64 (0), kd := TK.int IntKind.i64 } := by kernel_rfl
theorem ti30 : tinf Tryd.prog 30 = some { sz := 1, agg := false, bytes := 0, zero := PV.bad, kd := TK.other } := by kernel_rfl
theorem ti31 : tinf Tryd.prog 31 = some { sz := 1, agg := false, bytes := 8, zero := PV.nilfunc, kd := TK.func } := by kernel_rfl
theorem ti32 : tinf Tryd.prog 32 = some { sz := 1, agg := false, bytes := 24, zero := PV.nil0, kd := TK.slice 3 } := by kernel_rfl
theorem ti33 : tinf Tryd.prog 33 = some { sz := 1, agg := false, bytes := 8, zero := PV.nilfunc, kd := TK.func } := by kernel_rfl
theorem ti34 : tinf Tryd.prog 34 = some { sz := 1, agg := false, bytes := 8, zero := PV.nilfunc, kd := TK.func } := by kernel_rfl
theorem ti35 : tinf Tryd.prog 35 = some { sz := 1, agg := false, bytes := 8, zero := PV.nilfunc, kd := TK.func } := by kernel_rfl
theorem ti36 : tinf Tryd.prog 36 = some { sz := 4, agg := true, bytes := 96, zero := PV.agg [PV.nil0, PV.nil0, PV.nil0, PV.nil0], kd := TK.struct [{ off := 0, sz := 1, agg := false }, { off := 1, sz := 1, agg := false }, { off := 2, sz := 1, agg := false }, { off := 3, sz := 1, agg := false }] } := by kernel_rfl
theorem ti37 : tinf Tryd.prog 37 = some { sz := 4, agg := true, bytes := 96, zero := PV.agg [PV.nil0, PV.nil0, PV.nil0, PV.nil0], kd := TK.struct [{ off := 0, sz := 1, agg := false }, { off := 1, sz := 1, agg := false }, { off := 2, sz := 1, agg := false }, { off := 3, sz := 1, agg := false }] } := by kernel_rfl
theorem ti38 : tinf Tryd.prog 38 = some { sz := 1, agg := false, bytes := 24, zero := PV.nil0, kd := TK.slice 104 } := by kernel_rfl
theorem ti39 : tinf Tryd.prog 39 = some { sz := 1, agg := false, bytes := 8, zero := PV.nilfunc, kd := TK.func } := by kernel_rfl
theorem ti40 : tinf Tryd.prog 40 = some { sz := 1, agg := false, bytes := 8, zero := PV.nilfunc, kd := TK.func } := by kernel_rfl
theorem ti41 : tinf Tryd.prog 41 = some { sz := 1, agg := false, bytes := 8, zero := PV.nilfunc, kd := TK.func } := by kernel_rfl
theorem ti42 : tinf Tryd.prog 42 = some { sz := 1, agg := false, bytes := 8, zero := PV.nilfunc, kd := TK.func } := by kernel_rfl
theorem ti43 : tinf Tryd.prog 43 = some { sz := 1, agg := false, bytes := 8, zero := PV.nilfunc, kd := TK.func } := by kernel_rfl
theorem ti44 : tinf Tryd.prog 44 = some { sz := 1, agg := false, bytes := 8, zero := PV.nilfunc, kd := TK.func } := by kernel_rfl
theorem ti45 : tinf Tryd.prog 45 = some { sz := 1, agg := false, bytes := 8, zero := PV.nilfunc, kd := TK.func } := by kernel_rfl
theorem ti46 : tinf Tryd.prog 46 = some { sz := 2, agg := true, bytes := 32, zero := PV.agg [PV.str ⟨#[]⟩, PV.str ⟨#[]⟩], kd := TK.struct [{ off := 0, sz := 1, agg := false }, { off := 1, sz := 1, agg := false }] } := by kernel_rfl
theorem ti47 : tinf Tryd.prog 47 = some { sz := 2, agg := true, bytes := 32, zero := PV.agg [PV.str ⟨#[]⟩, PV.str ⟨#[]⟩], kd := TK.struct [{ off := 0, sz := 1, agg := false }, { off := 1, sz := 1, agg := false }] } := by kernel_rfl
theorem ti48 : tinf Tryd.prog 48 = some { sz := 1, agg := false, bytes := 8, zero := PV.nilfunc, kd := TK.func } := by kernel_rfl
theorem ti49 : tinf Tryd.prog 49 = some { sz := 1, agg := false, bytes := 8, zero := PV.nilfunc, kd := TK.func } := by kernel_rfl
theorem ti50 : tinf Tryd.prog 50 = some { sz := 1, agg := false, bytes := 8, zero := PV.nilfunc, kd := TK.func } := by kernel_rfl
theorem ti51 : tinf Tryd.prog 51 = some { sz := 1, agg := false, bytes := 8, zero := PV.nilfunc, kd := TK.func } := by kernel_rfl
theorem ti52 : tinf Tryd.prog 52 = some { sz := 7, agg := true, bytes := 152, zero := PV.agg [PV.nil0, PV.nil0, PV.nil0, PV.nil0, PV.nil0, PV.nil0, PV.bool false], kd := TK.struct [{ off := 0, sz := 4, agg := true }, { off := 4, sz := 1, agg := false }, { off := 5, sz := 1, agg := false }, { off := 6, sz := 1, agg := false }] } := by kernel_rfl
theorem ti53 : tinf Tryd.prog 53 = some { sz := 7, agg := true, bytes := 152, zero := PV.agg [PV.nil0, PV.nil0, PV.nil0, PV.nil0, PV.nil0, PV.nil0, PV.bool false], kd := TK.struct [{ off := 0, sz := 4, agg := true }, { off := 4, sz := 1, agg := false }, { off := 5, sz := 1, agg := false }, { off := 6, sz := 1, agg := false }] } := by kernel_rfl
theorem ti54 : tinf Tryd.prog 54 = some { sz := 1, agg := false, bytes := 24, zero := PV.nil0, kd := TK.slice 63 } := by kernel_rfl
theorem ti55 : tinf Tryd.prog 55 = some { sz := 8, agg := true, bytes := 144, zero := PV.agg [PV.int IntKind.i64 (0), PV.int IntKind.i64 (0), PV.str ⟨#[]⟩, PV.str ⟨#[]⟩, PV.nil0, PV.nil0, PV.nil0, PV.nil0], kd := TK.struct [{ off := 0, sz := 6, agg := true }, { off := 6, sz := 1, agg := false }, { off := 7, sz := 1, agg := false }] } := by kernel_rfl
theorem ti56 : tinf Tryd.prog 56 = some { sz := 8, agg := true, bytes := 144, zero := PV.agg [PV.int IntKind.i64 (0), PV.int IntKind.i64 (0), PV.str ⟨#[]⟩, PV.str ⟨#[]⟩, PV.nil0, PV.nil0, PV.nil0, PV.nil0], kd := TK.struct [{ off := 0, sz := 6, agg := true }, { off := 6, sz := 1, agg := false }, { off := 7, sz := 1, agg := false }] } := by kernel_rfl
theorem ti57 : tinf Tryd.prog 57 = some { sz := 1, agg := false, bytes := 8, zero := PV.nilfunc, kd := TK.func } := by kernel_rfl
theorem ti58 : tinf Tryd.prog 58 = some { sz := 1, agg := false, bytes := 8, zero := PV.nilptr, kd := TK.ptr 94 } := by kernel_rfl
theorem ti59 : tinf Tryd.prog 59 = some { sz := 1, agg := false, bytes := 8, zero := PV.nilfunc, kd := TK.func } := by kernel_rfl
theorem ti60 : tinf Tryd.prog 60 = some { sz := 1, agg := false, bytes := 8, zero := PV.nilfunc, kd := TK.func } := by kernel_rfl
theorem ti61 : tinf Tryd.prog 61 = some { sz := 1, agg := false, bytes := 8, zero := PV.nilfunc, kd := TK.func } := by kernel_rfl
theorem ti62 : tinf Tryd.prog 62 = some { sz := 3, agg := true, bytes := 32, zero := PV.agg [PV.str ⟨#[]⟩, PV.int IntKind.i64 (0), PV.int IntKind.i64 (0)], kd := TK.struct [{ off := 0, sz := 1, agg := false }, { off := 1, sz := 1, agg := false }, { off := 2, sz := 1, agg := false }] } := by kernel_rfl
theorem ti63 : tinf Tryd.prog 63 = some { sz := 3, agg := true, bytes := 32, zero := PV.agg [PV.str ⟨#[]⟩, PV.int IntKind.i64 (0), PV.int IntKind.i64 (0)], kd := TK.struct [{ off := 0, sz := 1, agg := false }, { off := 1, sz := 1, agg := false }, { off := 2, sz := 1, agg := false }] } := by kernel_rfl
theorem ti64 : tinf Tryd.prog 64 = some { sz := 1, agg := false, bytes := 8, zero := PV.nilfunc, kd := TK.func } := by kernel_rfl
theorem ti65 : tinf Tryd.prog 65 = some { sz := 1, agg := false, bytes := 8, zero := PV.nilfunc, kd := TK.func } := by kernel_rfl
theorem ti66 : tinf Tryd.prog 66 = some { sz := 1, agg := false, bytes := 8, zero := PV.nilptr, kd := TK.ptr 68 } := by kernel_rfl
theorem ti67 : tinf Tryd.prog 67 = some { sz := 3, agg := true, bytes := 56, zero := PV.agg [PV.nil0, PV.nil0, PV.int IntKind.i64 (0)], kd := TK.struct [{ off := 0, sz := 1, agg := false }, { off := 1, sz := 1, agg := false }, { off := 2, sz := 1, agg := false }] } := by kernel_rfl
theorem ti68 : tinf Tryd.prog 68 = some { sz := 3, agg := true, bytes := 56, zero := PV.agg [PV.nil0, PV.nil0, PV.int IntKind.i64 (0)], kd := TK.struct [{ off := 0, sz := 1, agg := false }, { off := 1, sz := 1, agg := false }, { off := 2, sz := 1, agg := false }] } := by kernel_rfl
theorem ti69 : tinf Tryd.prog 69 = some { sz := 3, agg := true, bytes := 32, zero := PV.agg [PV.int IntKind.i64 (0), PV.str ⟨#[]⟩, PV.int IntKind.i64 (0)], kd := TK.struct [{ off := 0, sz := 1, agg := false }, { off := 1, sz := 1, agg := false }, { off := 2, sz := 1, agg := false }] } := by kernel_rfl
theorem ti70 : tinf Tryd.prog 70 = some { sz := 3, agg := true, bytes := 32, zero := PV.agg [PV.int IntKind.i64 (0), PV.str ⟨#[]⟩, PV.int IntKind.i64 (0)], kd := TK.struct [{ off := 0, sz := 1, agg := false }, { off := 1, sz := 1, agg := false }, { off := 2, sz := 1, agg := false }] } := by kernel_rfl
theorem ti71 : tinf Tryd.prog 71 = some { sz := 1, agg := false, bytes := 0, zero := PV.bad, kd := TK.other } := by kernel_rfl
theorem ti72 : tinf Tryd.prog 72 = some { sz := 1, agg := false, bytes := 8, zero := PV.nilfunc, kd := TK.func } := by kernel_rfl
theorem ti73 : tinf Tryd.prog 73 = some { sz := 1, agg := false, bytes := 8, zero := PV.nilfunc, kd := TK.func } := by kernel_rfl
theorem ti74 : tinf Tryd.prog 74 = some { sz := 1, agg := false, bytes := 8, zero := PV.nilfunc, kd := TK.func } := by kernel_rfl
theorem ti75 : tinf Tryd.prog 75 = some { sz := 1, agg := false, bytes := 8, zero := PV.nilfunc, kd := TK.func } := by kernel_rfl
theorem ti76 : tinf Tryd.prog 76 = some { sz := 1, agg := false, bytes := 0, zero := PV.bad, kd := TK.other } := by kernel_rfl
theorem ti77 : tinf Tryd.prog 77 = some { sz := 1, agg := false, bytes := 8, zero := PV.nilfunc, kd := TK.func } := by kernel_rfl
theorem ti78 : tinf Tryd.prog 78 = some { sz := 1, agg := false, bytes := 8, zero := PV.nilfunc, kd := TK.func } := by kernel_rfl
theorem ti79 : tinf Tryd.prog 79 = some { sz := 1, agg := false, bytes := 24, zero := PV.nil0, kd := TK.slice 9 } := by kernel_rfl
theorem ti80 : tinf Tryd.prog 80 = some { sz := 1, agg := false, bytes := 8, zero := PV.nilfunc, kd := TK.func } := by kernel_rfl
theorem ti81 : tinf Tryd.prog 81 = some { sz := 1, agg := false, bytes := 8, zero := PV.nilfunc, kd := TK.func } := by kernel_rfl
theorem ti82 : tinf Tryd.prog 82 = some { sz := 1, agg := false, bytes := 8, zero := PV.nilfunc, kd := TK.func } := by kernel_rfl
theorem ti83 : tinf Tryd.prog 83 = some { sz := 1, agg := false, bytes := 0, zero := PV.bad, kd := TK.other } := by kernel_rfl
theorem ti84 : tinf Tryd.prog 84 = some { sz := 1, agg := false, bytes := 8, zero := PV.nilfunc, kd := TK.func } := by kernel_rfl
theorem ti85 : tinf Tryd.prog 85 = some { sz := 1, agg := false, bytes := 8, zero := PV.nilptr, kd := TK.ptr 3 } := by kernel_rfl
theorem ti86 : tinf Tryd.prog 86 = some { sz := 1, agg := false, bytes := 0, zero := PV.bad, kd := TK.other } := by kernel_rfl
theorem ti87 : tinf Tryd.prog 87 = some { sz := 1, agg := false, bytes := 8, zero := PV.nilfunc, kd := TK.func } := by kernel_rfl
theorem ti88 : tinf Tryd.prog 88 = some { sz := 1, agg := false, bytes := 8, zero := PV.nilfunc, kd := TK.func } := by kernel_rfl
theorem ti89 : tinf Tryd.prog 89 = some { sz := 1, agg := false, bytes := 8, zero := PV.nilfunc, kd := TK.func } := by kernel_rfl
theorem ti90 : tinf Tryd.prog 90 = some { sz := 1, agg := false, bytes := 8, zero := PV.nilfunc, kd := TK.func } := by kernel_rfl
theorem ti91 : tinf Tryd.prog 91 = some { sz := 1, agg := false, bytes := 8, zero := PV.nilfunc, kd := TK.func } := by kernel_rfl
theorem ti92 : tinf Tryd.prog 92 = some { sz := 1, agg := false, bytes := 8, zero := PV.nilfunc, kd := TK.func } := by kernel_rfl
theorem ti93 : tinf Tryd.prog 93 = some { sz := 8, agg := true, bytes := 144, zero := PV.agg [PV.int IntKind.i64 (0), PV.int IntKind.i64 (0), PV.str ⟨#[]⟩, PV.str ⟨#[]⟩, PV.nil0, PV.nil0, PV.nil0, PV.nil0], kd := TK.struct [{ off := 0, sz := 6, agg := true }, { off := 6, sz := 1, agg := false }, { off := 7, sz := 1, agg := false }] } := by kernel_rfl
theorem ti94 : tinf Tryd.prog 94 = some { sz := 8, agg := true, bytes := 144, zero := PV.agg [PV.int IntKind.i64 (0), PV.int IntKind.i64 (0), PV.str ⟨#[]⟩, PV.str ⟨#[]⟩, PV.nil0, PV.nil0, PV.nil0, PV.nil0], kd := TK.struct [{ off := 0, sz := 6, agg := true }, { off := 6, sz := 1, agg := false }, { off := 7, sz := 1, agg := false }] } := by kernel_rfl
theorem ti95 : tinf Tryd.prog 95 = some { sz := 1, agg := false, bytes := 8, zero := PV.nilfunc, kd := TK.func } := by kernel_rfl
theorem ti96 : tinf Tryd.prog 96 = some { sz := 1, agg := false, bytes := 8, zero := PV.nilfunc, kd := TK.func } := by kernel_rfl
theorem ti97 : tinf Tryd.prog 97 = some { sz := 1, agg := false, bytes := 8, zero := PV.nilfunc, kd := TK.func } := by kernel_rfl
theorem ti98 : tinf Tryd.prog 98 = some { sz := 1, agg := false, bytes := 8, zero := PV.nilfunc, kd := TK.func } := by kernel_rfl
theorem ti99 : tinf Tryd.prog 99 = some { sz := 1, agg := false, bytes := 8, zero := PV.nilfunc, kd := TK.func } := by kernel_rfl
theorem ti100 : tinf Tryd.prog 100 = some { sz := 1, agg := false, bytes := 8, zero := PV.nilfunc, kd := TK.func } := by kernel_rfl
theorem ti101 : tinf Tryd.prog 101 = some { sz := 1, agg := false, bytes := 8, zero := PV.nilfunc, kd := TK.func } := by kernel_rfl
theorem ti102 : tinf Tryd.prog 102 = some { sz := 1, agg := false, bytes := 8, zero := PV.nilfunc, kd := TK.func } := by kernel_rfl
theorem ti103 : tinf Tryd.prog 103 = some { sz := 1, agg := false, bytes := 8, zero := PV.nilfunc, kd := TK.func } := by kernel_rfl
theorem ti104 : tinf Tryd.prog 104 = some { sz := 2, agg := true, bytes := 32, zero := PV.agg [PV.str ⟨#[]⟩, PV.str ⟨#[]⟩], kd := TK.struct [{ off := 0, sz := 1, agg := false }, { off := 1, sz := 1, agg := false }] } := by kernel_rfl
theorem ti105 : tinf Tryd.prog 105 = some { sz := 1, agg := false, bytes := 8, zero := PV.nilmap, kd := TK.map 9 4 } := by kernel_rfl
theorem ti106 : tinf Tryd.prog 106 = some { sz := 1, agg := false, bytes := 8, zero := PV.nilfunc, kd := TK.func } := by kernel_rfl
theorem ti107 : tinf Tryd.prog 107 = some { sz := 1, agg := false, bytes := 8, zero := PV.nilfunc, kd := TK.func } := by kernel_rfl
theorem ti108 : tinf Tryd.prog 108 = some { sz := 1, agg := false, bytes := 8, zero := PV.nilfunc, kd := TK.func } := by kernel_rfl
theorem ti109 : tinf Tryd.prog 109 = some { sz := 1, agg := false, bytes := 8, zero := PV.nilfunc, kd := TK.func } := by kernel_rfl
theorem ti110 : tinf Tryd.prog 110 = some { sz := 1, agg := false, bytes := 8, zero := PV.nilfunc, kd := TK.func } := by kernel_rfl
theorem ti111 : tinf Tryd.prog 111 = some { sz := 1, agg := false, bytes := 8, zero := PV.nilfunc, kd := TK.func } := by kernel_rfl
theorem ti112 : tinf Tryd.prog 112 = some { sz := 1, agg := false, bytes := 8, zero := PV.nilfunc, kd := TK.func } := by kernel_rfl
theorem ti113 : tinf Tryd.prog 113 = some { sz := 1, agg := false, bytes := 8, zero := PV.nilfunc, kd := TK.func } := by kernel_rfl
theorem ti114 : tinf Tryd.prog 114 = some { sz := 1, agg := false, bytes := 8, zero := PV.int IntKind.u64 (0), kd := TK.int IntKind.u64 } := by kernel_rfl
theorem ti115 : tinf Tryd.prog 115 = some { sz := 1, agg := false, bytes := 24, zero := PV.nil0, kd := TK.slice 5 } := by kernel_rfl
theorem ti116 : tinf Tryd.prog 116 = some { sz := 1, agg := false, bytes := 8, zero := PV.nilfunc, kd := TK.func } := by kernel_rfl
theorem ti117 : tinf Tryd.prog 117 = some { sz := 1, agg := false, bytes := 8, zero := PV.nilfunc, kd := TK.func } := by kernel_rfl
theorem ti118 : tinf Tryd.prog 118 = some { sz := 1, agg := false, bytes := 8, zero := PV.nilfunc, kd := TK.func } := by kernel_rfl
theorem ti119 : tinf Tryd.prog 119 = some { sz := 1, agg := false, bytes := 8, zero := PV.nilfunc, kd := TK.func } := by kernel_rfl
theorem ti120 : tinf Tryd.prog 120 = some { sz := 1, agg := false, bytes := 8, zero := PV.nilfunc, kd := TK.func } := by kernel_rfl
theorem ti121 : tinf Tryd.prog 121 = some { sz := 1, agg := false, bytes := 8, zero := PV.nilfunc, kd := TK.func } := by kernel_rfl
theorem ti122 : tinf Tryd.prog 122 = some { sz := 1, agg := false, bytes := 8, zero := PV.nilfunc, kd := TK.func } := by kernel_rfl
theorem ti123 : tinf Tryd.prog 123 = some { sz := 1, agg := false, bytes := 8, zero := PV.nilfunc, kd := TK.func } := by kernel_rfl
theorem ti126 : tinf Tryd.prog 126 = some { sz := 1, agg := false, bytes := 0, zero := PV.bad, kd := TK.other } := by kernel_rfl
theorem ti127 : tinf Tryd.prog 127 = some { sz := 1, agg := false, bytes := 8, zero := PV.nilfunc, kd := TK.func } := by kernel_rfl
theorem ti128 : tinf Tryd.prog 128 = some { sz := 1, agg := false, bytes := 8, zero := PV.nilfunc, kd := TK.func } := by kernel_rfl
theorem ti129 : tinf Tryd.prog 129 = some { sz := 1, agg := false, bytes := 8, zero := PV.nilptr, kd := TK.ptr 125 } := by kernel_rfl
theorem ti130 : tinf Tryd.prog 130 = some { sz := 1, agg := false, bytes := 8, zero := PV.nilfunc, kd := TK.func } := by kernel_rfl
theorem ti131 : tinf Tryd.prog 131 = some { sz := 1, agg := false, bytes := 8, zero := PV.nilfunc, kd := TK.func } := by kernel_rfl
theorem ti132 : tinf Tryd.prog 132 = some { sz := 24, agg := true, bytes := 24, zero := PV.agg [PV.int IntKind.u8 (0), PV.int IntKind.u8 (0), PV.int IntKind.u8 (0), PV.int IntKind.u8 (0), PV.int IntKind.u8 (0), PV.int IntKind.u8 (0), PV.int IntKind.u8 (0), PV.int IntKind.u8 (0), PV.int IntKind.u8 (0), PV.int IntKind.u8 (0), PV.int IntKind.u8 (0), PV.int IntKind.u8 (0), PV.int IntKind.u8 (0), PV.int IntKind.u8 (0), PV.int IntKind.u8 (0), PV.int IntKind.u8 (0), PV.int IntKind.u8 (0), PV.int IntKind.u8 (0), PV.int IntKind.u8 (0), PV.int IntKind.u8 (0), PV.int IntKind.u8 (0), PV.int IntKind.u8 (0), PV.int IntKind.u8 (0), PV.int IntKind.u8 (0)], kd := TK.array 24 5 } := by kernel_rfl
theorem ti133 : tinf Tryd.prog 133 = some { sz := 1, agg := false, bytes := 8, zero := PV.nilfunc, kd := TK.func } := by kernel_rfl
theorem ti134 : tinf Tryd.prog 134 = some { sz := 1, agg := false, bytes := 8, zero := PV.nilfunc, kd := TK.func } := by kernel_rfl
theorem ti135 : tinf Tryd.prog 135 = some { sz := 1, agg := false, bytes := 0, zero := PV.bad, kd := TK.other } := by kernel_rfl
theorem ti136 : tinf Tryd.prog 136 = some { sz := 1, agg := false, bytes := 8, zero := PV.nilfunc, kd := TK.func } := by kernel_rfl
theorem ti137 : tinf Tryd.prog 137 = some { sz := 1, agg := false, bytes := 8, zero := PV.nilfunc, kd := TK.func } := by kernel_rfl
theorem ti138 : tinf Tryd.prog 138 = some { sz := 1, agg := false, bytes := 0, zero := PV.bad, kd := TK.other } := by kernel_rfl
theorem ti139 : tinf Tryd.prog 139 = some { sz := 1, agg := false, bytes := 8, zero := PV.nilfunc, kd := TK.func } := by kernel_rfl
theorem ti140 : tinf Tryd.prog 140 = some { sz := 1, agg := false, bytes := 8, zero := PV.nilfunc, kd := TK.func } := by kernel_rfl
theorem ti141 : tinf Tryd.prog 141 = some { sz := 1, agg := false, bytes := 8, zero := PV.nilfunc, kd := TK.func } := by kernel_rfl
theorem ti142 : tinf Tryd.prog 142 = some { sz := 20, agg := true, bytes := 160, zero := PV.agg [PV.int IntKind.u64 (0), PV.int IntKind.u64 (0), PV.int IntKind.u64 (0), PV.int IntKind.u64 (0), PV.int IntKind.u64 (0), PV.int IntKind.u64 (0), PV.int IntKind.u64 (0), PV.int IntKind.u64 (0), PV.int IntKind.u64 (0), PV.int IntKind.u64 (0), PV.int IntKind.u64 (0), PV.int IntKind.u64 (0), PV.int IntKind.u64 (0), PV.int IntKind.u64 (0), PV.int IntKind.u64 (0), PV.int IntKind.u64 (0), PV.int IntKind.u64 (0), PV.int IntKind.u64 (0), PV.int IntKind.u64 (0), PV.int IntKind.u64 (0)], kd := TK.array 20 114 } := by kernel_rfl
theorem ti143 : tinf Tryd.prog 143 = some { sz := 1, agg := false, bytes := 4, zero := PV.int IntKind.u32 (0), kd := TK.int IntKind.u32 } := by kernel_rfl
theorem ti145 : tinf Tryd.prog 145 = some { sz := 1, agg := false, bytes := 8, zero := PV.int IntKind.u64 (0), kd := TK.int IntKind.u64 } := by kernel_rfl
theorem ti146 : tinf Tryd.prog 146 = some { sz := 1, agg := false, bytes := 8, zero := PV.nilfunc, kd := TK.func } := by kernel_rfl
theorem ti147 : tinf Tryd.prog 147 = some { sz := 1, agg := false, bytes := 8, zero := PV.nilfunc, kd := TK.func } := by kernel_rfl
theorem ti148 : tinf Tryd.prog 148 = some { sz := 1, agg := false, bytes := 8, zero := PV.nilfunc, kd := TK.func } := by kernel_rfl
theorem ti150 : tinf Tryd.prog 150 = some { sz := 2, agg := true, bytes := 2, zero := PV.agg [PV.int IntKind.u8 (0), PV.int IntKind.u8 (0)], kd := TK.struct [{ off := 0, sz := 1, agg := false }, { off := 1, sz := 1, agg := false }] } := by kernel_rfl
theorem ti151 : tinf Tryd.prog 151 = some { sz := 2, agg := true, bytes := 2, zero := PV.agg [PV.int IntKind.u8 (0), PV.int IntKind.u8 (0)], kd := TK.struct [{ off := 0, sz := 1, agg := false }, { off := 1, sz := 1, agg := false }] } := by kernel_rfl
theorem ti152 : tinf Tryd.prog 152 = some { sz := 32, agg := true, bytes := 32, zero := PV.agg [PV.int IntKind.u8 (0), PV.int IntKind.u8 (0), PV.int IntKind.u8 (0), PV.int IntKind.u8 (0), PV.int IntKind.u8 (0), PV.int IntKind.u8 (0), PV.int IntKind.u8 (0), PV.int IntKind.u8 (0), PV.int IntKind.u8 (0), PV.int IntKind.u8 (0), PV.int IntKind.u8 (0), PV.int IntKind.u8 (0), PV.int IntKind.u8 (0), PV.int IntKind.u8 (0), PV.int IntKind.u8 (0), PV.int IntKind.u8 (0), PV.int IntKind.u8 (0), PV.int IntKind.u8 (0), PV.int IntKind.u8 (0), PV.int IntKind.u8 (0), PV.int IntKind.u8 (0), PV.int IntKind.u8 (0), PV.int IntKind.u8 (0), PV.int IntKind.u8 (0), PV.int IntKind.u8 (0), PV.int IntKind.u8 (0), PV.int IntKind.u8 (0), PV.int IntKind.u8 (0), PV.int IntKind.u8 (0), PV.int IntKind.u8 (0), PV.int IntKind.u8 (0), PV.int IntKind.u8 (0)], kd := TK.array 16 151 } := by kernel_rfl
theorem ti153 : tinf Tryd.prog 153 = some { sz := 1, agg := false, bytes := 8, zero := PV.nilfunc, kd := TK.func } := by kernel_rfl
theorem ti154 : tinf Tryd.prog 154 = some { sz := 1, agg := false, bytes := 8, zero := PV.nilfunc, kd := TK.func } := by kernel_rfl
theorem ti155 : tinf Tryd.prog 155 = some { sz := 1, agg := false, bytes := 8, zero := PV.nilfunc, kd := TK.func } := by kernel_rfl
theorem ti156 : tinf Tryd.prog 156 = some { sz := 32, agg := true, bytes := 32, zero := PV.agg [PV.int IntKind.u8 (0), PV.int IntKind.u8 (0), PV.int IntKind.u8 (0), PV.int IntKind.u8 (0), PV.int IntKind.u8 (0), PV.int IntKind.u8 (0), PV.int IntKind.u8 (0), PV.int IntKind.u8 (0), PV.int IntKind.u8 (0), PV.int IntKind.u8 (0), PV.int IntKind.u8 (0), PV.int IntKind.u8 (0), PV.int IntKind.u8 (0), PV.int IntKind.u8 (0), PV.int IntKind.u8 (0), PV.int IntKind.u8 (0), PV.int IntKind.u8 (0), PV.int IntKind.u8 (0), PV.int IntKind.u8 (0), PV.int IntKind.u8 (0), PV.int IntKind.u8 (0), PV.int IntKind.u8 (0), PV.int IntKind.u8 (0), PV.int IntKind.u8 (0), PV.int IntKind.u8 (0), PV.int IntKind.u8 (0), PV.int IntKind.u8 (0), PV.int IntKind.u8 (0), PV.int IntKind.u8 (0), PV.int IntKind.u8 (0), PV.int IntKind.u8 (0), PV.int IntKind.u8 (0)], kd := TK.array 32 5 } := by kernel_rfl
theorem ti158 : tinf Tryd.prog 158 = some { sz := 1, agg := false, bytes := 8, zero := PV.nilfunc, kd := TK.func } := by kernel_rfl
theorem ti159 : tinf Tryd.prog 159 = some { sz := 4, agg := true, bytes := 40, zero := PV.agg [PV.nilptr, PV.nilptr, PV.nilptr, PV.str ⟨#[]⟩], kd := TK.struct [{ off := 0, sz := 1, agg := false }, { off := 1, sz := 1, agg := false }, { off := 2, sz := 1, agg := false }, { off := 3, sz := 1, agg := false }] } := by kernel_rfl
end Go.Proofs.YtlfngjemfpjegaaDoor.Px
