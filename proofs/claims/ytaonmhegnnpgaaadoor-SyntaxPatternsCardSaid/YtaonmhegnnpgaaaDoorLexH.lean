/- Package lex's Lex by its plain function: words about its frame, its tables, its rows. No condition. -/
import Derived.Test.YtaonmhegnnpgaaaDoorLexG
import Derived.Test.YtaonmhegnnpgaaaDoorRep
namespace Go.Proofs.YtaonmhegnnpgaaaDoor
open Go Go.RowKit

set_option maxRecDepth 100000 in
set_option maxHeartbeats 1000000 in
theorem frame_all (T : Array Value) (h : T.size = 107) : T = #[T.getD 0 undef, T.getD 1 undef, T.getD 2 undef, T.getD 3 undef, T.getD 4 undef, T.getD 5 undef, T.getD 6 undef, T.getD 7 undef, T.getD 8 undef, T.getD 9 undef, T.getD 10 undef, T.getD 11 undef, T.getD 12 undef, T.getD 13 undef, T.getD 14 undef, T.getD 15 undef, T.getD 16 undef, T.getD 17 undef, T.getD 18 undef, T.getD 19 undef, T.getD 20 undef, T.getD 21 undef, T.getD 22 undef, T.getD 23 undef, T.getD 24 undef, T.getD 25 undef, T.getD 26 undef, T.getD 27 undef, T.getD 28 undef, T.getD 29 undef, T.getD 30 undef, T.getD 31 undef, T.getD 32 undef, T.getD 33 undef, T.getD 34 undef, T.getD 35 undef, T.getD 36 undef, T.getD 37 undef, T.getD 38 undef, T.getD 39 undef, T.getD 40 undef, T.getD 41 undef, T.getD 42 undef, T.getD 43 undef, T.getD 44 undef, T.getD 45 undef, T.getD 46 undef, T.getD 47 undef, T.getD 48 undef, T.getD 49 undef, T.getD 50 undef, T.getD 51 undef, T.getD 52 undef, T.getD 53 undef, T.getD 54 undef, T.getD 55 undef, T.getD 56 undef, T.getD 57 undef, T.getD 58 undef, T.getD 59 undef, T.getD 60 undef, T.getD 61 undef, T.getD 62 undef, T.getD 63 undef, T.getD 64 undef, T.getD 65 undef, T.getD 66 undef, T.getD 67 undef, T.getD 68 undef, T.getD 69 undef, T.getD 70 undef, T.getD 71 undef, T.getD 72 undef, T.getD 73 undef, T.getD 74 undef, T.getD 75 undef, T.getD 76 undef, T.getD 77 undef, T.getD 78 undef, T.getD 79 undef, T.getD 80 undef, T.getD 81 undef, T.getD 82 undef, T.getD 83 undef, T.getD 84 undef, T.getD 85 undef, T.getD 86 undef, T.getD 87 undef, T.getD 88 undef, T.getD 89 undef, T.getD 90 undef, T.getD 91 undef, T.getD 92 undef, T.getD 93 undef, T.getD 94 undef, T.getD 95 undef, T.getD 96 undef, T.getD 97 undef, T.getD 98 undef, T.getD 99 undef, T.getD 100 undef, T.getD 101 undef, T.getD 102 undef, T.getD 103 undef, T.getD 104 undef, T.getD 105 undef, T.getD 106 undef] := by
  obtain ⟨l0⟩ := T
  have h0 : l0.length = 107 := h
  obtain ⟨u0, l1, rfl⟩ := List.exists_cons_of_length_eq_add_one (h0 : l0.length = 106 + 1)
  have h1 : l1.length = 106 := by simpa using h0
  obtain ⟨u1, l2, rfl⟩ := List.exists_cons_of_length_eq_add_one (h1 : l1.length = 105 + 1)
  have h2 : l2.length = 105 := by simpa using h1
  obtain ⟨u2, l3, rfl⟩ := List.exists_cons_of_length_eq_add_one (h2 : l2.length = 104 + 1)
  have h3 : l3.length = 104 := by simpa using h2
  obtain ⟨u3, l4, rfl⟩ := List.exists_cons_of_length_eq_add_one (h3 : l3.length = 103 + 1)
  have h4 : l4.length = 103 := by simpa using h3
  obtain ⟨u4, l5, rfl⟩ := List.exists_cons_of_length_eq_add_one (h4 : l4.length = 102 + 1)
  have h5 : l5.length = 102 := by simpa using h4
  obtain ⟨u5, l6, rfl⟩ := List.exists_cons_of_length_eq_add_one (h5 : l5.length = 101 + 1)
  have h6 : l6.length = 101 := by simpa using h5
  obtain ⟨u6, l7, rfl⟩ := List.exists_cons_of_length_eq_add_one (h6 : l6.length = 100 + 1)
  have h7 : l7.length = 100 := by simpa using h6
  obtain ⟨u7, l8, rfl⟩ := List.exists_cons_of_length_eq_add_one (h7 : l7.length = 99 + 1)
  have h8 : l8.length = 99 := by simpa using h7
  obtain ⟨u8, l9, rfl⟩ := List.exists_cons_of_length_eq_add_one (h8 : l8.length = 98 + 1)
  have h9 : l9.length = 98 := by simpa using h8
  obtain ⟨u9, l10, rfl⟩ := List.exists_cons_of_length_eq_add_one (h9 : l9.length = 97 + 1)
  have h10 : l10.length = 97 := by simpa using h9
  obtain ⟨u10, l11, rfl⟩ := List.exists_cons_of_length_eq_add_one (h10 : l10.length = 96 + 1)
  have h11 : l11.length = 96 := by simpa using h10
  obtain ⟨u11, l12, rfl⟩ := List.exists_cons_of_length_eq_add_one (h11 : l11.length = 95 + 1)
  have h12 : l12.length = 95 := by simpa using h11
  obtain ⟨u12, l13, rfl⟩ := List.exists_cons_of_length_eq_add_one (h12 : l12.length = 94 + 1)
  have h13 : l13.length = 94 := by simpa using h12
  obtain ⟨u13, l14, rfl⟩ := List.exists_cons_of_length_eq_add_one (h13 : l13.length = 93 + 1)
  have h14 : l14.length = 93 := by simpa using h13
  obtain ⟨u14, l15, rfl⟩ := List.exists_cons_of_length_eq_add_one (h14 : l14.length = 92 + 1)
  have h15 : l15.length = 92 := by simpa using h14
  obtain ⟨u15, l16, rfl⟩ := List.exists_cons_of_length_eq_add_one (h15 : l15.length = 91 + 1)
  have h16 : l16.length = 91 := by simpa using h15
  obtain ⟨u16, l17, rfl⟩ := List.exists_cons_of_length_eq_add_one (h16 : l16.length = 90 + 1)
  have h17 : l17.length = 90 := by simpa using h16
  obtain ⟨u17, l18, rfl⟩ := List.exists_cons_of_length_eq_add_one (h17 : l17.length = 89 + 1)
  have h18 : l18.length = 89 := by simpa using h17
  obtain ⟨u18, l19, rfl⟩ := List.exists_cons_of_length_eq_add_one (h18 : l18.length = 88 + 1)
  have h19 : l19.length = 88 := by simpa using h18
  obtain ⟨u19, l20, rfl⟩ := List.exists_cons_of_length_eq_add_one (h19 : l19.length = 87 + 1)
  have h20 : l20.length = 87 := by simpa using h19
  obtain ⟨u20, l21, rfl⟩ := List.exists_cons_of_length_eq_add_one (h20 : l20.length = 86 + 1)
  have h21 : l21.length = 86 := by simpa using h20
  obtain ⟨u21, l22, rfl⟩ := List.exists_cons_of_length_eq_add_one (h21 : l21.length = 85 + 1)
  have h22 : l22.length = 85 := by simpa using h21
  obtain ⟨u22, l23, rfl⟩ := List.exists_cons_of_length_eq_add_one (h22 : l22.length = 84 + 1)
  have h23 : l23.length = 84 := by simpa using h22
  obtain ⟨u23, l24, rfl⟩ := List.exists_cons_of_length_eq_add_one (h23 : l23.length = 83 + 1)
  have h24 : l24.length = 83 := by simpa using h23
  obtain ⟨u24, l25, rfl⟩ := List.exists_cons_of_length_eq_add_one (h24 : l24.length = 82 + 1)
  have h25 : l25.length = 82 := by simpa using h24
  obtain ⟨u25, l26, rfl⟩ := List.exists_cons_of_length_eq_add_one (h25 : l25.length = 81 + 1)
  have h26 : l26.length = 81 := by simpa using h25
  obtain ⟨u26, l27, rfl⟩ := List.exists_cons_of_length_eq_add_one (h26 : l26.length = 80 + 1)
  have h27 : l27.length = 80 := by simpa using h26
  obtain ⟨u27, l28, rfl⟩ := List.exists_cons_of_length_eq_add_one (h27 : l27.length = 79 + 1)
  have h28 : l28.length = 79 := by simpa using h27
  obtain ⟨u28, l29, rfl⟩ := List.exists_cons_of_length_eq_add_one (h28 : l28.length = 78 + 1)
  have h29 : l29.length = 78 := by simpa using h28
  obtain ⟨u29, l30, rfl⟩ := List.exists_cons_of_length_eq_add_one (h29 : l29.length = 77 + 1)
  have h30 : l30.length = 77 := by simpa using h29
  obtain ⟨u30, l31, rfl⟩ := List.exists_cons_of_length_eq_add_one (h30 : l30.length = 76 + 1)
  have h31 : l31.length = 76 := by simpa using h30
  obtain ⟨u31, l32, rfl⟩ := List.exists_cons_of_length_eq_add_one (h31 : l31.length = 75 + 1)
  have h32 : l32.length = 75 := by simpa using h31
  obtain ⟨u32, l33, rfl⟩ := List.exists_cons_of_length_eq_add_one (h32 : l32.length = 74 + 1)
  have h33 : l33.length = 74 := by simpa using h32
  obtain ⟨u33, l34, rfl⟩ := List.exists_cons_of_length_eq_add_one (h33 : l33.length = 73 + 1)
  have h34 : l34.length = 73 := by simpa using h33
  obtain ⟨u34, l35, rfl⟩ := List.exists_cons_of_length_eq_add_one (h34 : l34.length = 72 + 1)
  have h35 : l35.length = 72 := by simpa using h34
  obtain ⟨u35, l36, rfl⟩ := List.exists_cons_of_length_eq_add_one (h35 : l35.length = 71 + 1)
  have h36 : l36.length = 71 := by simpa using h35
  obtain ⟨u36, l37, rfl⟩ := List.exists_cons_of_length_eq_add_one (h36 : l36.length = 70 + 1)
  have h37 : l37.length = 70 := by simpa using h36
  obtain ⟨u37, l38, rfl⟩ := List.exists_cons_of_length_eq_add_one (h37 : l37.length = 69 + 1)
  have h38 : l38.length = 69 := by simpa using h37
  obtain ⟨u38, l39, rfl⟩ := List.exists_cons_of_length_eq_add_one (h38 : l38.length = 68 + 1)
  have h39 : l39.length = 68 := by simpa using h38
  obtain ⟨u39, l40, rfl⟩ := List.exists_cons_of_length_eq_add_one (h39 : l39.length = 67 + 1)
  have h40 : l40.length = 67 := by simpa using h39
  obtain ⟨u40, l41, rfl⟩ := List.exists_cons_of_length_eq_add_one (h40 : l40.length = 66 + 1)
  have h41 : l41.length = 66 := by simpa using h40
  obtain ⟨u41, l42, rfl⟩ := List.exists_cons_of_length_eq_add_one (h41 : l41.length = 65 + 1)
  have h42 : l42.length = 65 := by simpa using h41
  obtain ⟨u42, l43, rfl⟩ := List.exists_cons_of_length_eq_add_one (h42 : l42.length = 64 + 1)
  have h43 : l43.length = 64 := by simpa using h42
  obtain ⟨u43, l44, rfl⟩ := List.exists_cons_of_length_eq_add_one (h43 : l43.length = 63 + 1)
  have h44 : l44.length = 63 := by simpa using h43
  obtain ⟨u44, l45, rfl⟩ := List.exists_cons_of_length_eq_add_one (h44 : l44.length = 62 + 1)
  have h45 : l45.length = 62 := by simpa using h44
  obtain ⟨u45, l46, rfl⟩ := List.exists_cons_of_length_eq_add_one (h45 : l45.length = 61 + 1)
  have h46 : l46.length = 61 := by simpa using h45
  obtain ⟨u46, l47, rfl⟩ := List.exists_cons_of_length_eq_add_one (h46 : l46.length = 60 + 1)
  have h47 : l47.length = 60 := by simpa using h46
  obtain ⟨u47, l48, rfl⟩ := List.exists_cons_of_length_eq_add_one (h47 : l47.length = 59 + 1)
  have h48 : l48.length = 59 := by simpa using h47
  obtain ⟨u48, l49, rfl⟩ := List.exists_cons_of_length_eq_add_one (h48 : l48.length = 58 + 1)
  have h49 : l49.length = 58 := by simpa using h48
  obtain ⟨u49, l50, rfl⟩ := List.exists_cons_of_length_eq_add_one (h49 : l49.length = 57 + 1)
  have h50 : l50.length = 57 := by simpa using h49
  obtain ⟨u50, l51, rfl⟩ := List.exists_cons_of_length_eq_add_one (h50 : l50.length = 56 + 1)
  have h51 : l51.length = 56 := by simpa using h50
  obtain ⟨u51, l52, rfl⟩ := List.exists_cons_of_length_eq_add_one (h51 : l51.length = 55 + 1)
  have h52 : l52.length = 55 := by simpa using h51
  obtain ⟨u52, l53, rfl⟩ := List.exists_cons_of_length_eq_add_one (h52 : l52.length = 54 + 1)
  have h53 : l53.length = 54 := by simpa using h52
  obtain ⟨u53, l54, rfl⟩ := List.exists_cons_of_length_eq_add_one (h53 : l53.length = 53 + 1)
  have h54 : l54.length = 53 := by simpa using h53
  obtain ⟨u54, l55, rfl⟩ := List.exists_cons_of_length_eq_add_one (h54 : l54.length = 52 + 1)
  have h55 : l55.length = 52 := by simpa using h54
  obtain ⟨u55, l56, rfl⟩ := List.exists_cons_of_length_eq_add_one (h55 : l55.length = 51 + 1)
  have h56 : l56.length = 51 := by simpa using h55
  obtain ⟨u56, l57, rfl⟩ := List.exists_cons_of_length_eq_add_one (h56 : l56.length = 50 + 1)
  have h57 : l57.length = 50 := by simpa using h56
  obtain ⟨u57, l58, rfl⟩ := List.exists_cons_of_length_eq_add_one (h57 : l57.length = 49 + 1)
  have h58 : l58.length = 49 := by simpa using h57
  obtain ⟨u58, l59, rfl⟩ := List.exists_cons_of_length_eq_add_one (h58 : l58.length = 48 + 1)
  have h59 : l59.length = 48 := by simpa using h58
  obtain ⟨u59, l60, rfl⟩ := List.exists_cons_of_length_eq_add_one (h59 : l59.length = 47 + 1)
  have h60 : l60.length = 47 := by simpa using h59
  obtain ⟨u60, l61, rfl⟩ := List.exists_cons_of_length_eq_add_one (h60 : l60.length = 46 + 1)
  have h61 : l61.length = 46 := by simpa using h60
  obtain ⟨u61, l62, rfl⟩ := List.exists_cons_of_length_eq_add_one (h61 : l61.length = 45 + 1)
  have h62 : l62.length = 45 := by simpa using h61
  obtain ⟨u62, l63, rfl⟩ := List.exists_cons_of_length_eq_add_one (h62 : l62.length = 44 + 1)
  have h63 : l63.length = 44 := by simpa using h62
  obtain ⟨u63, l64, rfl⟩ := List.exists_cons_of_length_eq_add_one (h63 : l63.length = 43 + 1)
  have h64 : l64.length = 43 := by simpa using h63
  obtain ⟨u64, l65, rfl⟩ := List.exists_cons_of_length_eq_add_one (h64 : l64.length = 42 + 1)
  have h65 : l65.length = 42 := by simpa using h64
  obtain ⟨u65, l66, rfl⟩ := List.exists_cons_of_length_eq_add_one (h65 : l65.length = 41 + 1)
  have h66 : l66.length = 41 := by simpa using h65
  obtain ⟨u66, l67, rfl⟩ := List.exists_cons_of_length_eq_add_one (h66 : l66.length = 40 + 1)
  have h67 : l67.length = 40 := by simpa using h66
  obtain ⟨u67, l68, rfl⟩ := List.exists_cons_of_length_eq_add_one (h67 : l67.length = 39 + 1)
  have h68 : l68.length = 39 := by simpa using h67
  obtain ⟨u68, l69, rfl⟩ := List.exists_cons_of_length_eq_add_one (h68 : l68.length = 38 + 1)
  have h69 : l69.length = 38 := by simpa using h68
  obtain ⟨u69, l70, rfl⟩ := List.exists_cons_of_length_eq_add_one (h69 : l69.length = 37 + 1)
  have h70 : l70.length = 37 := by simpa using h69
  obtain ⟨u70, l71, rfl⟩ := List.exists_cons_of_length_eq_add_one (h70 : l70.length = 36 + 1)
  have h71 : l71.length = 36 := by simpa using h70
  obtain ⟨u71, l72, rfl⟩ := List.exists_cons_of_length_eq_add_one (h71 : l71.length = 35 + 1)
  have h72 : l72.length = 35 := by simpa using h71
  obtain ⟨u72, l73, rfl⟩ := List.exists_cons_of_length_eq_add_one (h72 : l72.length = 34 + 1)
  have h73 : l73.length = 34 := by simpa using h72
  obtain ⟨u73, l74, rfl⟩ := List.exists_cons_of_length_eq_add_one (h73 : l73.length = 33 + 1)
  have h74 : l74.length = 33 := by simpa using h73
  obtain ⟨u74, l75, rfl⟩ := List.exists_cons_of_length_eq_add_one (h74 : l74.length = 32 + 1)
  have h75 : l75.length = 32 := by simpa using h74
  obtain ⟨u75, l76, rfl⟩ := List.exists_cons_of_length_eq_add_one (h75 : l75.length = 31 + 1)
  have h76 : l76.length = 31 := by simpa using h75
  obtain ⟨u76, l77, rfl⟩ := List.exists_cons_of_length_eq_add_one (h76 : l76.length = 30 + 1)
  have h77 : l77.length = 30 := by simpa using h76
  obtain ⟨u77, l78, rfl⟩ := List.exists_cons_of_length_eq_add_one (h77 : l77.length = 29 + 1)
  have h78 : l78.length = 29 := by simpa using h77
  obtain ⟨u78, l79, rfl⟩ := List.exists_cons_of_length_eq_add_one (h78 : l78.length = 28 + 1)
  have h79 : l79.length = 28 := by simpa using h78
  obtain ⟨u79, l80, rfl⟩ := List.exists_cons_of_length_eq_add_one (h79 : l79.length = 27 + 1)
  have h80 : l80.length = 27 := by simpa using h79
  obtain ⟨u80, l81, rfl⟩ := List.exists_cons_of_length_eq_add_one (h80 : l80.length = 26 + 1)
  have h81 : l81.length = 26 := by simpa using h80
  obtain ⟨u81, l82, rfl⟩ := List.exists_cons_of_length_eq_add_one (h81 : l81.length = 25 + 1)
  have h82 : l82.length = 25 := by simpa using h81
  obtain ⟨u82, l83, rfl⟩ := List.exists_cons_of_length_eq_add_one (h82 : l82.length = 24 + 1)
  have h83 : l83.length = 24 := by simpa using h82
  obtain ⟨u83, l84, rfl⟩ := List.exists_cons_of_length_eq_add_one (h83 : l83.length = 23 + 1)
  have h84 : l84.length = 23 := by simpa using h83
  obtain ⟨u84, l85, rfl⟩ := List.exists_cons_of_length_eq_add_one (h84 : l84.length = 22 + 1)
  have h85 : l85.length = 22 := by simpa using h84
  obtain ⟨u85, l86, rfl⟩ := List.exists_cons_of_length_eq_add_one (h85 : l85.length = 21 + 1)
  have h86 : l86.length = 21 := by simpa using h85
  obtain ⟨u86, l87, rfl⟩ := List.exists_cons_of_length_eq_add_one (h86 : l86.length = 20 + 1)
  have h87 : l87.length = 20 := by simpa using h86
  obtain ⟨u87, l88, rfl⟩ := List.exists_cons_of_length_eq_add_one (h87 : l87.length = 19 + 1)
  have h88 : l88.length = 19 := by simpa using h87
  obtain ⟨u88, l89, rfl⟩ := List.exists_cons_of_length_eq_add_one (h88 : l88.length = 18 + 1)
  have h89 : l89.length = 18 := by simpa using h88
  obtain ⟨u89, l90, rfl⟩ := List.exists_cons_of_length_eq_add_one (h89 : l89.length = 17 + 1)
  have h90 : l90.length = 17 := by simpa using h89
  obtain ⟨u90, l91, rfl⟩ := List.exists_cons_of_length_eq_add_one (h90 : l90.length = 16 + 1)
  have h91 : l91.length = 16 := by simpa using h90
  obtain ⟨u91, l92, rfl⟩ := List.exists_cons_of_length_eq_add_one (h91 : l91.length = 15 + 1)
  have h92 : l92.length = 15 := by simpa using h91
  obtain ⟨u92, l93, rfl⟩ := List.exists_cons_of_length_eq_add_one (h92 : l92.length = 14 + 1)
  have h93 : l93.length = 14 := by simpa using h92
  obtain ⟨u93, l94, rfl⟩ := List.exists_cons_of_length_eq_add_one (h93 : l93.length = 13 + 1)
  have h94 : l94.length = 13 := by simpa using h93
  obtain ⟨u94, l95, rfl⟩ := List.exists_cons_of_length_eq_add_one (h94 : l94.length = 12 + 1)
  have h95 : l95.length = 12 := by simpa using h94
  obtain ⟨u95, l96, rfl⟩ := List.exists_cons_of_length_eq_add_one (h95 : l95.length = 11 + 1)
  have h96 : l96.length = 11 := by simpa using h95
  obtain ⟨u96, l97, rfl⟩ := List.exists_cons_of_length_eq_add_one (h96 : l96.length = 10 + 1)
  have h97 : l97.length = 10 := by simpa using h96
  obtain ⟨u97, l98, rfl⟩ := List.exists_cons_of_length_eq_add_one (h97 : l97.length = 9 + 1)
  have h98 : l98.length = 9 := by simpa using h97
  obtain ⟨u98, l99, rfl⟩ := List.exists_cons_of_length_eq_add_one (h98 : l98.length = 8 + 1)
  have h99 : l99.length = 8 := by simpa using h98
  obtain ⟨u99, l100, rfl⟩ := List.exists_cons_of_length_eq_add_one (h99 : l99.length = 7 + 1)
  have h100 : l100.length = 7 := by simpa using h99
  obtain ⟨u100, l101, rfl⟩ := List.exists_cons_of_length_eq_add_one (h100 : l100.length = 6 + 1)
  have h101 : l101.length = 6 := by simpa using h100
  obtain ⟨u101, l102, rfl⟩ := List.exists_cons_of_length_eq_add_one (h101 : l101.length = 5 + 1)
  have h102 : l102.length = 5 := by simpa using h101
  obtain ⟨u102, l103, rfl⟩ := List.exists_cons_of_length_eq_add_one (h102 : l102.length = 4 + 1)
  have h103 : l103.length = 4 := by simpa using h102
  obtain ⟨u103, l104, rfl⟩ := List.exists_cons_of_length_eq_add_one (h103 : l103.length = 3 + 1)
  have h104 : l104.length = 3 := by simpa using h103
  obtain ⟨u104, l105, rfl⟩ := List.exists_cons_of_length_eq_add_one (h104 : l104.length = 2 + 1)
  have h105 : l105.length = 2 := by simpa using h104
  obtain ⟨u105, l106, rfl⟩ := List.exists_cons_of_length_eq_add_one (h105 : l105.length = 1 + 1)
  have h106 : l106.length = 1 := by simpa using h105
  obtain ⟨u106, l107, rfl⟩ := List.exists_cons_of_length_eq_add_one (h106 : l106.length = 0 + 1)
  have h107 : l107.length = 0 := by simpa using h106
  obtain rfl := List.eq_nil_of_length_eq_zero h107
  rfl
theorem frame_of (T : Array Value) (s : ByteArray) (v p : Value) (n : Int) (h : T.size = 107) (t0 : T.getD 0 undef = .string s) (t5 : T.getD 5 undef = v) (t6 : T.getD 6 undef = p) (t9 : T.getD 9 undef = .int .i64 n) :
    ∃ f : Nat → Value, T = #[.string s, f 1, f 2, f 3, f 4, v, p, f 7, f 8, .int .i64 n, f 10, f 11, f 12, f 13, f 14, f 15, f 16, f 17, f 18, f 19, f 20, f 21, f 22, f 23, f 24, f 25, f 26, f 27, f 28, f 29, f 30, f 31, f 32, f 33, f 34, f 35, f 36, f 37, f 38, f 39, f 40, f 41, f 42, f 43, f 44, f 45, f 46, f 47, f 48, f 49, f 50, f 51, f 52, f 53, f 54, f 55, f 56, f 57, f 58, f 59, f 60, f 61, f 62, f 63, f 64, f 65, f 66, f 67, f 68, f 69, f 70, f 71, f 72, f 73, f 74, f 75, f 76, f 77, f 78, f 79, f 80, f 81, f 82, f 83, f 84, f 85, f 86, f 87, f 88, f 89, f 90, f 91, f 92, f 93, f 94, f 95, f 96, f 97, f 98, f 99, f 100, f 101, f 102, f 103, f 104, f 105, f 106] := by
  have := frame_all T h
  rw [t0, t5, t6, t9] at this
  exact ⟨fun i => T.getD i undef, this⟩

/-- The tables that package lex reads. -/
def Tabs (w : World) : Prop := Lib.Utf8Tabs 1 2 w ∧ KeysAt w
theorem cell_below {w W : World} (hb : Below w.heap.size w W) {a : Addr} {v : Value} (h : w.cell? a = some v) : W.cell? a = some v := (hb.cell (lt_of_cell h)).trans h
theorem Tabs.below {w W : World} (h : Tabs w) (hb : Below w.heap.size w W) : Tabs W :=
  ⟨⟨fun c hc => cell_below hb (h.1.1 c hc), fun i hi => ⟨cell_below hb (h.1.2 i hi).1, cell_below hb (h.1.2 i hi).2⟩⟩, fun j hj => cell_below hb (h.2 j hj)⟩

/-- What Lex hands back. -/
def LexEnd (r : Except (Int × Int) (List Tok)) (w : World) (e : Ending) (w' : World) : Prop :=
  Below w.heap.size w w' ∧ match r with
  | .error (p, c) => e = .returned (.tuple #[.slice none 0 0, .int .i64 p, .int .i64 c])
  | .ok L => ∃ a cap, e = .returned (.tuple #[.slice a L.length cap, .int .i64 0, .int .i64 0]) ∧ L.length ≤ cap ∧ cap ≤ 9223372036854775807 ∧ Toks w' a L ∧ ∀ ad, a = some ad → w.heap.size ≤ ad.block ∧ ad.block < w'.heap.size
theorem LexEnd.no {r : Except (Int × Int) (List Tok)} {w w' : World} {p c : Int} (h : r = .error (p, c)) (hb : Below w.heap.size w w') : LexEnd r w (.returned (.tuple #[.slice none 0 0, .int .i64 p, .int .i64 c])) w' := by
  subst h
  exact ⟨hb, rfl⟩
theorem LexEnd.yes {r : Except (Int × Int) (List Tok)} {w w' : World} {L : List Tok} {v : Value} {B : Nat} (h : r = .ok L) (hb : Below w.heap.size w w') (hB : w.heap.size ≤ B) (ho : w'.ownsRow B 30 4 v L.length (L.flatMap tokCells)) : LexEnd r w (.returned (.tuple #[v, .int .i64 0, .int .i64 0])) w' := by
  subst h
  refine ⟨hb, ?_⟩
  rcases ho.2 with ⟨rfl, h0⟩ | ⟨g, cap, cur, rfl, hgB, hg, hn, hm, _, _⟩
  · have : L = [] := List.eq_nil_of_length_eq_zero h0
    subst this
    exact ⟨none, 0, rfl, Nat.le_refl _, by decide, .nil_, by intro ad h; cases h⟩
  · refine ⟨_, cap, rfl, hn, by unfold maxLen at hm; exact hm, .inr ⟨_, rfl, trivial, ho.cells rfl⟩, ?_⟩
    rintro ad ⟨⟩
    exact ⟨Nat.le_trans hB hgB, (Array.getElem?_eq_some_iff.1 hg).1⟩
end Go.Proofs.YtaonmhegnnpgaaaDoor
