/- A text's parse, told. -/
import Derived.Test.YthhhmmildgijhaaGreatDoorGD1
import Derived.Test.YthhhmmildgijhaaGreatDoorAF6
set_option linter.unusedVariables false
namespace Go.Proofs.YthhhmmildgijhaaGreatDoorAI
open Go

def noKs : Scr := fun _ _ => []
def nt (n : Int) : Value := .int .i64 n
def st (l : List UInt8) : Value := .string ⟨l.toArray⟩
def pn : Value := .pointer none
def pt (b o : Nat) : Value := .pointer (some ⟨b, o, none⟩)
def sn : Value := .slice none 0 0
def sl (b o n c : Nat) : Value := .slice (some ⟨b, o, none⟩) n c
def su (b o k n c : Nat) : Value := .slice (some ⟨b, o, some k⟩) n c
def mp (n : Nat) : Value := .map (some n)
def ck (n : Nat) : Value := .chan (some n)
def q0 : AObj := .cells [st [120], st [121]] 9 1 true false
def q1 : AObj := .cells [.int .u32 1] 318 1 true false
def q2 : AObj := .cells [.int .u32 2] 318 1 true false
def q3 : AObj := .cells [nt 13, nt 0, .bool false, sn, sn, .bool false, st [], pn, pn, st [], sn, .bool false, sn, su 2350 0 0 3 1, sn, sn] 221 16 false false
def q4 : AObj := .cells [nt 6, nt 0, .bool false, sn, sn, .bool false, st [], pn, pn, st [], su 592 0 0 2 1, .bool false, su 942 0 0 2 1, su 1237 0 0 1 1, sn, sn] 221 16 false false
def q5 : AObj := .cells [.bool false, .bool false] 4 1 true false
def q6 : AObj := .cells [nt 13, nt 0, .bool false, sn, sn, .bool false, st [], pn, pn, st [], sn, .bool false, sn, su 1096 0 0 3 1, su 1235 0 0 2 1, sn] 221 16 false false
def q7 : AObj := .cells [nt 5, nt 6, .bool false, sn, sn, .bool false, st [108, 105, 115, 116], pn, pn, st [108, 105, 115, 116], sn, .bool false, sn, sn, sn, sn] 221 16 false false
def q8 : AObj := .cells [nt 1, nt 0, .bool false, sn, sn, .bool false, st [], pn, pn, st [120], sn, .bool false, sn, sn, su 1045 0 0 1 1, sn] 221 16 false false
def q9 : AObj := .cells [nt 1, nt 0, .bool false, sn, sn, .bool false, st [], pn, pn, st [121], sn, .bool false, sn, sn, su 1094 0 0 1 1, sn] 221 16 false false
def q10 : AObj := .cells [pt 956 0, pt 1001 0, pt 1050 0] 128 1 true false
def q11 : AObj := .cells [pt 953 0] 128 1 true false
def q12 : AObj := .cells [nt 9, nt 0, .bool false, sn, sn, .bool false, st [], pn, pn, st [], sn, .bool false, sn, su 1717 0 0 2 1, sn, sn] 221 16 false false
def q13 : AObj := .cells [nt 13, nt 0, .bool false, sn, sn, .bool false, st [], pn, pn, st [], sn, .bool false, sn, su 1559 0 0 2 1, sn, sn] 221 16 false false
def q14 : AObj := .cells [nt 5, nt 6, .bool false, sn, sn, .bool false, st [119, 114, 105, 116, 101], pn, pn, st [119, 114, 105, 116, 101], sn, .bool false, sn, sn, sn, sn] 221 16 false false
def q15 : AObj := .cells [nt 2, nt 1, .bool false, su 632 0 0 1 1, su 634 0 0 1 1, .bool false, st [], pn, pn, st [], sn, .bool false, sn, sn, sn, sn] 221 16 false false
def q16 : AObj := .cells [pt 1467 0, pt 1512 0] 128 1 true false
def q17 : AObj := .cells [nt 2, nt 1, .bool false, su 642 0 0 1 1, su 644 0 0 1 1, .bool false, st [], pn, pn, st [], sn, .bool false, sn, sn, sn, sn] 221 16 false false
def q18 : AObj := .cells [pt 1464 0, pt 1670 0] 128 1 true false
def q19 : AObj := .cells [nt 9, nt 0, .bool false, sn, sn, .bool false, st [], pn, pn, st [], sn, .bool false, sn, su 2163 0 0 2 1, sn, sn] 221 16 false false
def q20 : AObj := .cells [nt 13, nt 0, .bool false, sn, sn, .bool false, st [], pn, pn, st [], sn, .bool false, sn, su 2005 0 0 2 1, sn, sn] 221 16 false false
def q21 : AObj := .cells [nt 2, nt 1, .bool false, su 665 0 0 1 1, su 667 0 0 1 1, .bool false, st [], pn, pn, st [], sn, .bool false, sn, sn, sn, sn] 221 16 false false
def q22 : AObj := .cells [pt 1913 0, pt 1958 0] 128 1 true false
def q23 : AObj := .cells [nt 2, nt 1, .bool false, su 675 0 0 1 1, su 677 0 0 1 1, .bool false, st [], pn, pn, st [], sn, .bool false, sn, sn, sn, sn] 221 16 false false
def q24 : AObj := .cells [pt 1910 0, pt 2116 0] 128 1 true false
def q25 : AObj := .cells [pt 687 0, pt 1461 0, pt 1907 0] 128 1 true false
def q26 : AObj := .cells [nt 6, .bool false, sn, sn, .bool false, st [], su 592 0 0 2 1, .bool false, sn, sl 593 0 1 1, nt 9, .bool false, sn, sn, .bool false, st [], sn, .bool false, sn, sl 618 0 2 2, nt 9, .bool false, sn, sn, .bool false, st [], sn, .bool false, sn, sl 651 0 2 2] 210 10 false false
def q27 : AObj := .cells [nt 13, .bool false, sn, sn, .bool false, st [], sn, .bool false, sn, sl 597 0 3 3] 210 10 false false
def q28 : AObj := .cells [nt 5, .bool false, sn, sn, .bool false, st [108, 105, 115, 116], sn, .bool false, sn, sl 601 0 0 0, nt 1, .bool false, sn, sn, .bool false, st [120], sn, .bool false, sn, sl 606 0 0 0, nt 1, .bool false, sn, sn, .bool false, st [121], sn, .bool false, sn, sl 611 0 0 0] 210 10 false false
def q29 : AObj := .cells [nt 13, .bool false, sn, sn, .bool false, st [], sn, .bool false, sn, sl 622 0 2 2, nt 2, .bool false, su 642 0 0 1 1, su 644 0 0 1 1, .bool false, st [], sn, .bool false, sn, sl 645 0 0 0] 210 10 false false
def q30 : AObj := .cells [nt 5, .bool false, sn, sn, .bool false, st [119, 114, 105, 116, 101], sn, .bool false, sn, sl 626 0 0 0, nt 2, .bool false, su 632 0 0 1 1, su 634 0 0 1 1, .bool false, st [], sn, .bool false, sn, sl 635 0 0 0] 210 10 false false
def q31 : AObj := .cells [nt 13, .bool false, sn, sn, .bool false, st [], sn, .bool false, sn, sl 655 0 2 2, nt 2, .bool false, su 675 0 0 1 1, su 677 0 0 1 1, .bool false, st [], sn, .bool false, sn, sl 678 0 0 0] 210 10 false false
def q32 : AObj := .cells [nt 5, .bool false, sn, sn, .bool false, st [119, 114, 105, 116, 101], sn, .bool false, sn, sl 659 0 0 0, nt 2, .bool false, su 665 0 0 1 1, su 667 0 0 1 1, .bool false, st [], sn, .bool false, sn, sl 668 0 0 0] 210 10 false false
def q33 : AObj := .cells [sn] 215 1 false false
def q34 : AObj := .cells [nt 13, .bool false, sn, sn, .bool false, st [], sn, .bool false, sn, sl 587 0 3 3] 210 10 false false
def q35 : AObj := .cells [nt 13, nt 0, .bool false, sn, sn, .bool false, st [], pn, pn, st [], sn, .bool false, sn, sn, sn, sn] 221 16 false false
def q36 : AObj := .cells [nt 6, .bool false, sn, sn, .bool false, st [], su 592 0 0 2 1, .bool false, sn, sl 593 0 1 1] 210 10 false false
def q37 : AObj := .cells [nt 6, nt 0, .bool false, sn, sn, .bool false, st [], pn, pn, st [], su 592 0 0 2 1, .bool false, su 942 0 0 2 1, sn, sn, sn] 221 16 false false
def q38 : AObj := .cells [nt 13, nt 0, .bool false, sn, sn, .bool false, st [], pn, pn, st [], sn, .bool false, sn, su 998 0 0 1 1, sn, sn] 221 16 false false
def q39 : AObj := .cells [pt 956 0] 128 1 true false
def q40 : AObj := .cells [nt 1, nt 0, .bool false, sn, sn, .bool false, st [], pn, pn, st [120], sn, .bool false, sn, sn, sn, sn] 221 16 false false
def q41 : AObj := .cells [nt 13, nt 0, .bool false, sn, sn, .bool false, st [], pn, pn, st [], sn, .bool false, sn, su 1047 0 0 2 1, sn, sn] 221 16 false false
def q42 : AObj := .cells [pt 956 0, pt 1001 0] 128 1 true false
def q43 : AObj := .cells [nt 1, nt 0, .bool false, sn, sn, .bool false, st [], pn, pn, st [121], sn, .bool false, sn, sn, sn, sn] 221 16 false false
def q44 : AObj := .cells [nt 13, nt 0, .bool false, sn, sn, .bool false, st [], pn, pn, st [], sn, .bool false, sn, su 1096 0 0 3 1, sn, sn] 221 16 false false
def q45 : AObj := .cells [nt 13, nt 0, .bool false, sn, sn, .bool false, st [], pn, pn, st [], sn, .bool false, sn, su 1458 0 0 1 1, sn, sn] 221 16 false false
def q46 : AObj := .cells [pt 687 0] 128 1 true false
def q47 : AObj := .cells [nt 9, .bool false, sn, sn, .bool false, st [], sn, .bool false, sn, sl 618 0 2 2] 210 10 false false
def q48 : AObj := .cells [nt 9, nt 0, .bool false, sn, sn, .bool false, st [], pn, pn, st [], sn, .bool false, sn, sn, sn, sn] 221 16 false false
def q49 : AObj := .cells [nt 13, .bool false, sn, sn, .bool false, st [], sn, .bool false, sn, sl 622 0 2 2] 210 10 false false
def q50 : AObj := .cells [nt 13, nt 0, .bool false, sn, sn, .bool false, st [], pn, pn, st [], sn, .bool false, sn, su 1509 0 0 1 1, sn, sn] 221 16 false false
def q51 : AObj := .cells [pt 1467 0] 128 1 true false
def q52 : AObj := .cells [nt 9, nt 0, .bool false, sn, sn, .bool false, st [], pn, pn, st [], sn, .bool false, sn, su 1667 0 0 1 1, sn, sn] 221 16 false false
def q53 : AObj := .cells [pt 1464 0] 128 1 true false
def q54 : AObj := .cells [nt 13, nt 0, .bool false, sn, sn, .bool false, st [], pn, pn, st [], sn, .bool false, sn, su 1904 0 0 2 1, sn, sn] 221 16 false false
def q55 : AObj := .cells [pt 687 0, pt 1461 0] 128 1 true false
def q56 : AObj := .cells [nt 9, .bool false, sn, sn, .bool false, st [], sn, .bool false, sn, sl 651 0 2 2] 210 10 false false
def q57 : AObj := .cells [nt 13, .bool false, sn, sn, .bool false, st [], sn, .bool false, sn, sl 655 0 2 2] 210 10 false false
def q58 : AObj := .cells [nt 13, nt 0, .bool false, sn, sn, .bool false, st [], pn, pn, st [], sn, .bool false, sn, su 1955 0 0 1 1, sn, sn] 221 16 false false
def q59 : AObj := .cells [pt 1913 0] 128 1 true false
def q60 : AObj := .cells [nt 9, nt 0, .bool false, sn, sn, .bool false, st [], pn, pn, st [], sn, .bool false, sn, su 2113 0 0 1 1, sn, sn] 221 16 false false
def q61 : AObj := .cells [pt 1910 0] 128 1 true false
def q62 : AObj := .cells [st [49], st [50]] 9 1 true false
def q63 : AObj := .cells [nt 2, nt 0] 53 2 true false
def q64 : AObj := .cells [st [35, 48, 61, 40, 49, 32, 46, 32, 35, 49, 61, 40, 50, 32, 46, 32, 40, 41, 41, 41]] 9 1 true false
def q65 : AObj := .cells [st [50], st [49]] 9 1 true false
def q66 : AObj := .cells [nt 2, nt 1] 53 2 true false
def q67 : AObj := .cells [nt 0, nt 1, su 6871 0 0 1 1, nt 10, su 6760 0 0 2 1, su 6762 0 0 1 2, nt 0, nt 1, su 10747 0 0 1 1, nt 10, su 10636 0 0 2 1, su 10638 0 0 1 2] 37 6 true false
def q68 : AObj := .cells [nt 9] 3 1 false false
def q69 : AObj := .cells [sn] 44 1 false false
def q70 : AObj := .cells [.bool false] 4 1 false false
def q71 : AObj := .cells [nt 0] 3 1 false false
def q72 : AObj := .cells [nt 0] 25 1 false false
def q73 : AObj := .cells [st [40, 40, 108, 97, 109, 98, 100, 97, 32, 40, 120, 32, 121, 41, 32, 40, 108, 105, 115, 116, 32, 120, 32, 121, 41, 41, 32, 40, 98, 101, 103, 105, 110, 32, 40, 119, 114, 105, 116, 101, 32, 49, 41, 32, 49, 41, 32, 40, 98, 101, 103, 105, 110, 32, 40, 119, 114, 105, 116, 101, 32, 50, 41, 32, 50, 41, 41]] 9 1 false false
def q74 : AObj := .cells [nt 99] 3 1 false false
def q75 : AObj := .cells [nt 0, nt 0, sn, nt 0, sn, sn] 37 6 false false
def q76 : AObj := .cells [sn, sn] 206 2 false false
def q77 : AObj := .cells [nt 6, nt 0, .bool false, sn, sn, .bool false, st [], pn, pn, st [], su 3592 0 0 2 1, .bool false, su 3942 0 0 2 1, su 4237 0 0 1 1, sn, sn] 221 16 false false
def q78 : AObj := .cells [nt 13, nt 0, .bool false, sn, sn, .bool false, st [], pn, pn, st [], sn, .bool false, sn, su 4096 0 0 3 1, su 4235 0 0 2 1, sn] 221 16 false false
def q79 : AObj := .cells [nt 1, nt 0, .bool false, sn, sn, .bool false, st [], pn, pn, st [120], sn, .bool false, sn, sn, su 4045 0 0 1 1, sn] 221 16 false false
def q80 : AObj := .cells [nt 1, nt 0, .bool false, sn, sn, .bool false, st [], pn, pn, st [121], sn, .bool false, sn, sn, su 4094 0 0 1 1, sn] 221 16 false false
def q81 : AObj := .cells [pt 3956 0, pt 4001 0, pt 4050 0] 128 1 true false
def q82 : AObj := .cells [pt 3953 0] 128 1 true false
def q83 : AObj := .cells [nt 9, nt 0, .bool false, sn, sn, .bool false, st [], pn, pn, st [], sn, .bool false, sn, su 4717 0 0 2 1, sn, sn] 221 16 false false
def q84 : AObj := .cells [nt 13, nt 0, .bool false, sn, sn, .bool false, st [], pn, pn, st [], sn, .bool false, sn, su 4559 0 0 2 1, sn, sn] 221 16 false false
def q85 : AObj := .cells [nt 2, nt 1, .bool false, su 3632 0 0 1 1, su 3634 0 0 1 1, .bool false, st [], pn, pn, st [], sn, .bool false, sn, sn, sn, sn] 221 16 false false
def q86 : AObj := .cells [pt 4467 0, pt 4512 0] 128 1 true false
def q87 : AObj := .cells [nt 2, nt 1, .bool false, su 3642 0 0 1 1, su 3644 0 0 1 1, .bool false, st [], pn, pn, st [], sn, .bool false, sn, sn, sn, sn] 221 16 false false
def q88 : AObj := .cells [pt 4464 0, pt 4670 0] 128 1 true false
def q89 : AObj := .cells [nt 9, nt 0, .bool false, sn, sn, .bool false, st [], pn, pn, st [], sn, .bool false, sn, su 5163 0 0 2 1, sn, sn] 221 16 false false
def q90 : AObj := .cells [nt 13, nt 0, .bool false, sn, sn, .bool false, st [], pn, pn, st [], sn, .bool false, sn, su 5005 0 0 2 1, sn, sn] 221 16 false false
def q91 : AObj := .cells [nt 2, nt 1, .bool false, su 3665 0 0 1 1, su 3667 0 0 1 1, .bool false, st [], pn, pn, st [], sn, .bool false, sn, sn, sn, sn] 221 16 false false
def q92 : AObj := .cells [pt 4913 0, pt 4958 0] 128 1 true false
def q93 : AObj := .cells [nt 2, nt 1, .bool false, su 3675 0 0 1 1, su 3677 0 0 1 1, .bool false, st [], pn, pn, st [], sn, .bool false, sn, sn, sn, sn] 221 16 false false
def q94 : AObj := .cells [pt 4910 0, pt 5116 0] 128 1 true false
def q95 : AObj := .cells [pn, .iface 152 (.agg #[su 5959 0 0 3 1, nt (-1)]), nt (-1), .iface 126 (pt 3006 0), sn, sn, nt 0, nt 0, nt 0, nt 0, nt 0, st [], sn] 86 13 false false
def q96 : AObj := .cells [.iface 133 (.agg #[pt 3687 0, pn]), .iface 133 (.agg #[pt 4461 0, pn]), .iface 133 (.agg #[pt 4907 0, pn])] 82 1 true false
def q97 : AObj := .cells [pt 5951 0] 58 1 false false
def q98 : AObj := .cells [su 6878 0 0 1 6] 44 1 false false
def q99 : AObj := .cells [nt 0, nt 1, su 6871 0 0 1 1, nt 10, su 6760 0 0 2 1, su 6762 0 0 1 2] 37 6 true false
def q100 : AObj := .cells [nt 1] 3 1 true false
def q101 : AObj := .cells [sn, su 6881 0 0 1 1] 206 2 false false
def q102 : AObj := .cells [nt 6, nt 0, .bool false, sn, sn, .bool false, st [], pn, pn, st [], su 7468 0 0 2 1, .bool false, su 7818 0 0 2 1, su 8113 0 0 1 1, sn, sn] 221 16 false false
def q103 : AObj := .cells [nt 13, nt 0, .bool false, sn, sn, .bool false, st [], pn, pn, st [], sn, .bool false, sn, su 7972 0 0 3 1, su 8111 0 0 2 1, sn] 221 16 false false
def q104 : AObj := .cells [nt 1, nt 0, .bool false, sn, sn, .bool false, st [], pn, pn, st [120], sn, .bool false, sn, sn, su 7921 0 0 1 1, sn] 221 16 false false
def q105 : AObj := .cells [nt 1, nt 0, .bool false, sn, sn, .bool false, st [], pn, pn, st [121], sn, .bool false, sn, sn, su 7970 0 0 1 1, sn] 221 16 false false
def q106 : AObj := .cells [pt 7832 0, pt 7877 0, pt 7926 0] 128 1 true false
def q107 : AObj := .cells [pt 7829 0] 128 1 true false
def q108 : AObj := .cells [nt 9, nt 0, .bool false, sn, sn, .bool false, st [], pn, pn, st [], sn, .bool false, sn, su 8593 0 0 2 1, sn, sn] 221 16 false false
def q109 : AObj := .cells [nt 13, nt 0, .bool false, sn, sn, .bool false, st [], pn, pn, st [], sn, .bool false, sn, su 8435 0 0 2 1, sn, sn] 221 16 false false
def q110 : AObj := .cells [nt 2, nt 1, .bool false, su 7508 0 0 1 1, su 7510 0 0 1 1, .bool false, st [], pn, pn, st [], sn, .bool false, sn, sn, sn, sn] 221 16 false false
def q111 : AObj := .cells [pt 8343 0, pt 8388 0] 128 1 true false
def q112 : AObj := .cells [nt 2, nt 1, .bool false, su 7518 0 0 1 1, su 7520 0 0 1 1, .bool false, st [], pn, pn, st [], sn, .bool false, sn, sn, sn, sn] 221 16 false false
def q113 : AObj := .cells [pt 8340 0, pt 8546 0] 128 1 true false
def q114 : AObj := .cells [nt 9, nt 0, .bool false, sn, sn, .bool false, st [], pn, pn, st [], sn, .bool false, sn, su 9039 0 0 2 1, sn, sn] 221 16 false false
def q115 : AObj := .cells [nt 13, nt 0, .bool false, sn, sn, .bool false, st [], pn, pn, st [], sn, .bool false, sn, su 8881 0 0 2 1, sn, sn] 221 16 false false
def q116 : AObj := .cells [nt 2, nt 1, .bool false, su 7541 0 0 1 1, su 7543 0 0 1 1, .bool false, st [], pn, pn, st [], sn, .bool false, sn, sn, sn, sn] 221 16 false false
def q117 : AObj := .cells [pt 8789 0, pt 8834 0] 128 1 true false
def q118 : AObj := .cells [nt 2, nt 1, .bool false, su 7551 0 0 1 1, su 7553 0 0 1 1, .bool false, st [], pn, pn, st [], sn, .bool false, sn, sn, sn, sn] 221 16 false false
def q119 : AObj := .cells [pt 8786 0, pt 8992 0] 128 1 true false
def q120 : AObj := .cells [pn, .iface 152 (.agg #[su 9835 0 0 3 1, nt (-1)]), nt (-1), .iface 126 (pt 6882 0), sn, sn, nt 0, nt 0, nt 0, nt 0, nt 0, st [], sn] 86 13 false false
def q121 : AObj := .cells [.iface 133 (.agg #[pt 7563 0, pn]), .iface 133 (.agg #[pt 8337 0, pn]), .iface 133 (.agg #[pt 8783 0, pn])] 82 1 true false
def q122 : AObj := .cells [pt 9827 0] 58 1 false false
def q123 : AObj := .cells [nt 1] 3 1 false false
def q124 : AObj := .cells [sn, su 13755 0 0 1 1] 206 2 false false
def q125 : AObj := .cells [nt 6, nt 0, .bool false, sn, sn, .bool false, st [], pn, pn, st [], su 14342 0 0 2 1, .bool false, su 14692 0 0 2 1, su 14987 0 0 1 1, sn, sn] 221 16 false false
def q126 : AObj := .cells [nt 13, nt 0, .bool false, sn, sn, .bool false, st [], pn, pn, st [], sn, .bool false, sn, su 14846 0 0 3 1, su 14985 0 0 2 1, sn] 221 16 false false
def q127 : AObj := .cells [nt 1, nt 0, .bool false, sn, sn, .bool false, st [], pn, pn, st [120], sn, .bool false, sn, sn, su 14795 0 0 1 1, sn] 221 16 false false
def q128 : AObj := .cells [nt 1, nt 0, .bool false, sn, sn, .bool false, st [], pn, pn, st [121], sn, .bool false, sn, sn, su 14844 0 0 1 1, sn] 221 16 false false
def q129 : AObj := .cells [pt 14706 0, pt 14751 0, pt 14800 0] 128 1 true false
def q130 : AObj := .cells [pt 14703 0] 128 1 true false
def q131 : AObj := .cells [nt 9, nt 0, .bool false, sn, sn, .bool false, st [], pn, pn, st [], sn, .bool false, sn, su 15467 0 0 2 1, sn, sn] 221 16 false false
def q132 : AObj := .cells [nt 13, nt 0, .bool false, sn, sn, .bool false, st [], pn, pn, st [], sn, .bool false, sn, su 15309 0 0 2 1, sn, sn] 221 16 false false
def q133 : AObj := .cells [nt 2, nt 1, .bool false, su 14382 0 0 1 1, su 14384 0 0 1 1, .bool false, st [], pn, pn, st [], sn, .bool false, sn, sn, sn, sn] 221 16 false false
def q134 : AObj := .cells [pt 15217 0, pt 15262 0] 128 1 true false
def q135 : AObj := .cells [nt 2, nt 1, .bool false, su 14392 0 0 1 1, su 14394 0 0 1 1, .bool false, st [], pn, pn, st [], sn, .bool false, sn, sn, sn, sn] 221 16 false false
def q136 : AObj := .cells [pt 15214 0, pt 15420 0] 128 1 true false
def q137 : AObj := .cells [nt 9, nt 0, .bool false, sn, sn, .bool false, st [], pn, pn, st [], sn, .bool false, sn, su 15913 0 0 2 1, sn, sn] 221 16 false false
def q138 : AObj := .cells [nt 13, nt 0, .bool false, sn, sn, .bool false, st [], pn, pn, st [], sn, .bool false, sn, su 15755 0 0 2 1, sn, sn] 221 16 false false
def q139 : AObj := .cells [nt 2, nt 1, .bool false, su 14415 0 0 1 1, su 14417 0 0 1 1, .bool false, st [], pn, pn, st [], sn, .bool false, sn, sn, sn, sn] 221 16 false false
def q140 : AObj := .cells [pt 15663 0, pt 15708 0] 128 1 true false
def q141 : AObj := .cells [nt 2, nt 1, .bool false, su 14425 0 0 1 1, su 14427 0 0 1 1, .bool false, st [], pn, pn, st [], sn, .bool false, sn, sn, sn, sn] 221 16 false false
def q142 : AObj := .cells [pt 15660 0, pt 15866 0] 128 1 true false
def q143 : AObj := .cells [pn, .iface 152 (.agg #[su 16709 0 0 3 1, nt (-1)]), nt (-1), .iface 126 (pt 13756 0), sn, sn, nt 0, nt 0, nt 0, nt 0, nt 0, st [], sn] 86 13 false false
def q144 : AObj := .cells [.iface 133 (.agg #[pt 14437 0, pn]), .iface 133 (.agg #[pt 15211 0, pn]), .iface 133 (.agg #[pt 15657 0, pn])] 82 1 true false
def q145 : AObj := .cells [pt 16701 0] 58 1 false false
def f66 : Fre := ⟨66, [st [40, 40, 108, 97, 109, 98, 100, 97, 32, 40, 120, 32, 121, 41, 32, 40, 108, 105, 115, 116, 32, 120, 32, 121, 41, 41, 32, 40, 98, 101, 103, 105, 110, 32, 40, 119, 114, 105, 116, 101, 32, 49, 41, 32, 49, 41, 32, 40, 98, 101, 103, 105, 110, 32, 40, 119, 114, 105, 116, 101, 32, 50, 41, 32, 50, 41, 41]], .tuple #[pt 684 0, sn, nt 0, nt 0], 2944, [(592, q0), (632, q1), (634, q1), (642, q1), (644, q1), (665, q2), (667, q1), (675, q2), (677, q1), (684, q3), (687, q4), (942, q5), (953, q6), (956, q7), (1001, q8), (1050, q9), (1096, q10), (1237, q11), (1461, q12), (1464, q13), (1467, q14), (1512, q15), (1559, q16), (1670, q17), (1717, q18), (1907, q19), (1910, q20), (1913, q14), (1958, q21), (2005, q22), (2116, q23), (2163, q24), (2350, q25)]⟩
def f100 : Fre := ⟨100, [st [40, 40, 108, 97, 109, 98, 100, 97, 32, 40, 120, 32, 121, 41, 32, 40, 108, 105, 115, 116, 32, 120, 32, 121, 41, 41, 32, 40, 98, 101, 103, 105, 110, 32, 40, 119, 114, 105, 116, 101, 32, 49, 41, 32, 49, 41, 32, 40, 98, 101, 103, 105, 110, 32, 40, 119, 114, 105, 116, 101, 32, 50, 41, 32, 50, 41, 41]], .tuple #[.agg #[nt 13, .bool false, sn, sn, .bool false, st [], sn, .bool false, sn, sl 587 0 3 3], nt 0, nt 0], 674, [(587, q26), (592, q0), (593, q27), (597, q28), (618, q29), (622, q30), (632, q1), (634, q1), (642, q1), (644, q1), (651, q31), (655, q32), (665, q2), (667, q1), (675, q2), (677, q1)]⟩
def e127_0 : Ent := ⟨127, [.agg #[nt 5, .bool false, sn, sn, .bool false, st [108, 105, 115, 116], sn, .bool false, sn, sl 601 0 0 0]], 950, [(587, q26), (592, q0), (593, q27), (597, q28), (618, q29), (622, q30), (632, q1), (634, q1), (642, q1), (644, q1), (651, q31), (655, q32), (665, q2), (667, q1), (675, q2), (677, q1), (682, q33), (683, q34), (684, q35), (686, q36), (687, q37), (942, q5), (952, q27), (953, q35), (956, q7)], .tuple #[sn, nt 0], 990, [(587, q26), (592, q0), (593, q27), (597, q28), (618, q29), (622, q30), (632, q1), (634, q1), (642, q1), (644, q1), (651, q31), (655, q32), (665, q2), (667, q1), (675, q2), (677, q1), (682, q33), (683, q34), (684, q35), (686, q36), (687, q37), (942, q5), (952, q27), (953, q35), (956, q7)]⟩
def e127_1 : Ent := ⟨127, [.agg #[nt 1, .bool false, sn, sn, .bool false, st [120], sn, .bool false, sn, sl 606 0 0 0]], 995, [(587, q26), (592, q0), (593, q27), (597, q28), (618, q29), (622, q30), (632, q1), (634, q1), (642, q1), (644, q1), (651, q31), (655, q32), (665, q2), (667, q1), (675, q2), (677, q1), (682, q33), (683, q34), (684, q35), (686, q36), (687, q37), (942, q5), (952, q27), (953, q38), (956, q7), (998, q39), (1001, q40)], .tuple #[su 1045 0 0 1 1, nt 0], 1039, [(587, q26), (592, q0), (593, q27), (597, q28), (618, q29), (622, q30), (632, q1), (634, q1), (642, q1), (644, q1), (651, q31), (655, q32), (665, q2), (667, q1), (675, q2), (677, q1), (682, q33), (683, q34), (684, q35), (686, q36), (687, q37), (942, q5), (952, q27), (953, q38), (956, q7), (998, q39), (1001, q40)]⟩
def e127_2 : Ent := ⟨127, [.agg #[nt 1, .bool false, sn, sn, .bool false, st [121], sn, .bool false, sn, sl 611 0 0 0]], 1044, [(587, q26), (592, q0), (593, q27), (597, q28), (618, q29), (622, q30), (632, q1), (634, q1), (642, q1), (644, q1), (651, q31), (655, q32), (665, q2), (667, q1), (675, q2), (677, q1), (682, q33), (683, q34), (684, q35), (686, q36), (687, q37), (942, q5), (952, q27), (953, q41), (956, q7), (1001, q8), (1047, q42), (1050, q43)], .tuple #[su 1094 0 0 1 1, nt 0], 1088, [(587, q26), (592, q0), (593, q27), (597, q28), (618, q29), (622, q30), (632, q1), (634, q1), (642, q1), (644, q1), (651, q31), (655, q32), (665, q2), (667, q1), (675, q2), (677, q1), (682, q33), (683, q34), (684, q35), (686, q36), (687, q37), (942, q5), (952, q27), (953, q41), (956, q7), (1001, q8), (1047, q42), (1050, q43)]⟩
def e127_3 : Ent := ⟨127, [.agg #[nt 13, .bool false, sn, sn, .bool false, st [], sn, .bool false, sn, sl 597 0 3 3]], 1090, [(587, q26), (592, q0), (593, q27), (597, q28), (618, q29), (622, q30), (632, q1), (634, q1), (642, q1), (644, q1), (651, q31), (655, q32), (665, q2), (667, q1), (675, q2), (677, q1), (682, q33), (683, q34), (684, q35), (686, q36), (687, q37), (942, q5), (953, q44), (956, q7), (1001, q8), (1050, q9), (1096, q10)], .tuple #[su 1235 0 0 2 1, nt 0], 1229, [(587, q26), (592, q0), (593, q27), (597, q28), (618, q29), (622, q30), (632, q1), (634, q1), (642, q1), (644, q1), (651, q31), (655, q32), (665, q2), (667, q1), (675, q2), (677, q1), (682, q33), (683, q34), (684, q35), (686, q36), (687, q37), (942, q5), (953, q44), (956, q7), (1001, q8), (1050, q9), (1096, q10)]⟩
def e127_4 : Ent := ⟨127, [.agg #[nt 6, .bool false, sn, sn, .bool false, st [], su 592 0 0 2 1, .bool false, sn, sl 593 0 1 1]], 1231, [(587, q26), (592, q0), (593, q27), (597, q28), (618, q29), (622, q30), (632, q1), (634, q1), (642, q1), (644, q1), (651, q31), (655, q32), (665, q2), (667, q1), (675, q2), (677, q1), (682, q33), (683, q34), (684, q35), (687, q4), (942, q5), (953, q6), (956, q7), (1001, q8), (1050, q9), (1096, q10), (1237, q11)], .tuple #[sn, nt 0], 1450, [(587, q26), (592, q0), (593, q27), (597, q28), (618, q29), (622, q30), (632, q1), (634, q1), (642, q1), (644, q1), (651, q31), (655, q32), (665, q2), (667, q1), (675, q2), (677, q1), (682, q33), (683, q34), (684, q35), (687, q4), (942, q5), (953, q6), (956, q7), (1001, q8), (1050, q9), (1096, q10), (1237, q11)]⟩
def e127_5 : Ent := ⟨127, [.agg #[nt 5, .bool false, sn, sn, .bool false, st [119, 114, 105, 116, 101], sn, .bool false, sn, sl 626 0 0 0]], 1461, [(587, q26), (592, q0), (593, q27), (597, q28), (618, q29), (622, q30), (632, q1), (634, q1), (642, q1), (644, q1), (651, q31), (655, q32), (665, q2), (667, q1), (675, q2), (677, q1), (682, q33), (683, q34), (684, q45), (687, q4), (942, q5), (953, q6), (956, q7), (1001, q8), (1050, q9), (1096, q10), (1237, q11), (1458, q46), (1460, q47), (1461, q48), (1463, q49), (1464, q35), (1467, q14)], .tuple #[sn, nt 0], 1501, [(587, q26), (592, q0), (593, q27), (597, q28), (618, q29), (622, q30), (632, q1), (634, q1), (642, q1), (644, q1), (651, q31), (655, q32), (665, q2), (667, q1), (675, q2), (677, q1), (682, q33), (683, q34), (684, q45), (687, q4), (942, q5), (953, q6), (956, q7), (1001, q8), (1050, q9), (1096, q10), (1237, q11), (1458, q46), (1460, q47), (1461, q48), (1463, q49), (1464, q35), (1467, q14)]⟩
def e127_6 : Ent := ⟨127, [.agg #[nt 2, .bool false, su 632 0 0 1 1, su 634 0 0 1 1, .bool false, st [], sn, .bool false, sn, sl 635 0 0 0]], 1506, [(587, q26), (592, q0), (593, q27), (597, q28), (618, q29), (622, q30), (632, q1), (634, q1), (642, q1), (644, q1), (651, q31), (655, q32), (665, q2), (667, q1), (675, q2), (677, q1), (682, q33), (683, q34), (684, q45), (687, q4), (942, q5), (953, q6), (956, q7), (1001, q8), (1050, q9), (1096, q10), (1237, q11), (1458, q46), (1460, q47), (1461, q48), (1463, q49), (1464, q50), (1467, q14), (1509, q51), (1512, q15)], .tuple #[sn, nt 0], 1551, [(587, q26), (592, q0), (593, q27), (597, q28), (618, q29), (622, q30), (632, q1), (634, q1), (642, q1), (644, q1), (651, q31), (655, q32), (665, q2), (667, q1), (675, q2), (677, q1), (682, q33), (683, q34), (684, q45), (687, q4), (942, q5), (953, q6), (956, q7), (1001, q8), (1050, q9), (1096, q10), (1237, q11), (1458, q46), (1460, q47), (1461, q48), (1463, q49), (1464, q50), (1467, q14), (1509, q51), (1512, q15)]⟩
def e127_7 : Ent := ⟨127, [.agg #[nt 13, .bool false, sn, sn, .bool false, st [], sn, .bool false, sn, sl 622 0 2 2]], 1553, [(587, q26), (592, q0), (593, q27), (597, q28), (618, q29), (622, q30), (632, q1), (634, q1), (642, q1), (644, q1), (651, q31), (655, q32), (665, q2), (667, q1), (675, q2), (677, q1), (682, q33), (683, q34), (684, q45), (687, q4), (942, q5), (953, q6), (956, q7), (1001, q8), (1050, q9), (1096, q10), (1237, q11), (1458, q46), (1460, q47), (1461, q48), (1464, q13), (1467, q14), (1512, q15), (1559, q16)], .tuple #[sn, nt 0], 1659, [(587, q26), (592, q0), (593, q27), (597, q28), (618, q29), (622, q30), (632, q1), (634, q1), (642, q1), (644, q1), (651, q31), (655, q32), (665, q2), (667, q1), (675, q2), (677, q1), (682, q33), (683, q34), (684, q45), (687, q4), (942, q5), (953, q6), (956, q7), (1001, q8), (1050, q9), (1096, q10), (1237, q11), (1458, q46), (1460, q47), (1461, q48), (1464, q13), (1467, q14), (1512, q15), (1559, q16)]⟩
def e127_8 : Ent := ⟨127, [.agg #[nt 2, .bool false, su 642 0 0 1 1, su 644 0 0 1 1, .bool false, st [], sn, .bool false, sn, sl 645 0 0 0]], 1664, [(587, q26), (592, q0), (593, q27), (597, q28), (618, q29), (622, q30), (632, q1), (634, q1), (642, q1), (644, q1), (651, q31), (655, q32), (665, q2), (667, q1), (675, q2), (677, q1), (682, q33), (683, q34), (684, q45), (687, q4), (942, q5), (953, q6), (956, q7), (1001, q8), (1050, q9), (1096, q10), (1237, q11), (1458, q46), (1460, q47), (1461, q52), (1464, q13), (1467, q14), (1512, q15), (1559, q16), (1667, q53), (1670, q17)], .tuple #[sn, nt 0], 1709, [(587, q26), (592, q0), (593, q27), (597, q28), (618, q29), (622, q30), (632, q1), (634, q1), (642, q1), (644, q1), (651, q31), (655, q32), (665, q2), (667, q1), (675, q2), (677, q1), (682, q33), (683, q34), (684, q45), (687, q4), (942, q5), (953, q6), (956, q7), (1001, q8), (1050, q9), (1096, q10), (1237, q11), (1458, q46), (1460, q47), (1461, q52), (1464, q13), (1467, q14), (1512, q15), (1559, q16), (1667, q53), (1670, q17)]⟩
def e127_9 : Ent := ⟨127, [.agg #[nt 9, .bool false, sn, sn, .bool false, st [], sn, .bool false, sn, sl 618 0 2 2]], 1711, [(587, q26), (592, q0), (593, q27), (597, q28), (618, q29), (622, q30), (632, q1), (634, q1), (642, q1), (644, q1), (651, q31), (655, q32), (665, q2), (667, q1), (675, q2), (677, q1), (682, q33), (683, q34), (684, q45), (687, q4), (942, q5), (953, q6), (956, q7), (1001, q8), (1050, q9), (1096, q10), (1237, q11), (1458, q46), (1461, q12), (1464, q13), (1467, q14), (1512, q15), (1559, q16), (1670, q17), (1717, q18)], .tuple #[sn, nt 0], 1896, [(587, q26), (592, q0), (593, q27), (597, q28), (618, q29), (622, q30), (632, q1), (634, q1), (642, q1), (644, q1), (651, q31), (655, q32), (665, q2), (667, q1), (675, q2), (677, q1), (682, q33), (683, q34), (684, q45), (687, q4), (942, q5), (953, q6), (956, q7), (1001, q8), (1050, q9), (1096, q10), (1237, q11), (1458, q46), (1461, q12), (1464, q13), (1467, q14), (1512, q15), (1559, q16), (1670, q17), (1717, q18)]⟩
def e127_10 : Ent := ⟨127, [.agg #[nt 5, .bool false, sn, sn, .bool false, st [119, 114, 105, 116, 101], sn, .bool false, sn, sl 659 0 0 0]], 1907, [(587, q26), (592, q0), (593, q27), (597, q28), (618, q29), (622, q30), (632, q1), (634, q1), (642, q1), (644, q1), (651, q31), (655, q32), (665, q2), (667, q1), (675, q2), (677, q1), (682, q33), (683, q34), (684, q54), (687, q4), (942, q5), (953, q6), (956, q7), (1001, q8), (1050, q9), (1096, q10), (1237, q11), (1461, q12), (1464, q13), (1467, q14), (1512, q15), (1559, q16), (1670, q17), (1717, q18), (1904, q55), (1906, q56), (1907, q48), (1909, q57), (1910, q35), (1913, q14)], .tuple #[sn, nt 0], 1947, [(587, q26), (592, q0), (593, q27), (597, q28), (618, q29), (622, q30), (632, q1), (634, q1), (642, q1), (644, q1), (651, q31), (655, q32), (665, q2), (667, q1), (675, q2), (677, q1), (682, q33), (683, q34), (684, q54), (687, q4), (942, q5), (953, q6), (956, q7), (1001, q8), (1050, q9), (1096, q10), (1237, q11), (1461, q12), (1464, q13), (1467, q14), (1512, q15), (1559, q16), (1670, q17), (1717, q18), (1904, q55), (1906, q56), (1907, q48), (1909, q57), (1910, q35), (1913, q14)]⟩
def e127_11 : Ent := ⟨127, [.agg #[nt 2, .bool false, su 665 0 0 1 1, su 667 0 0 1 1, .bool false, st [], sn, .bool false, sn, sl 668 0 0 0]], 1952, [(587, q26), (592, q0), (593, q27), (597, q28), (618, q29), (622, q30), (632, q1), (634, q1), (642, q1), (644, q1), (651, q31), (655, q32), (665, q2), (667, q1), (675, q2), (677, q1), (682, q33), (683, q34), (684, q54), (687, q4), (942, q5), (953, q6), (956, q7), (1001, q8), (1050, q9), (1096, q10), (1237, q11), (1461, q12), (1464, q13), (1467, q14), (1512, q15), (1559, q16), (1670, q17), (1717, q18), (1904, q55), (1906, q56), (1907, q48), (1909, q57), (1910, q58), (1913, q14), (1955, q59), (1958, q21)], .tuple #[sn, nt 0], 1997, [(587, q26), (592, q0), (593, q27), (597, q28), (618, q29), (622, q30), (632, q1), (634, q1), (642, q1), (644, q1), (651, q31), (655, q32), (665, q2), (667, q1), (675, q2), (677, q1), (682, q33), (683, q34), (684, q54), (687, q4), (942, q5), (953, q6), (956, q7), (1001, q8), (1050, q9), (1096, q10), (1237, q11), (1461, q12), (1464, q13), (1467, q14), (1512, q15), (1559, q16), (1670, q17), (1717, q18), (1904, q55), (1906, q56), (1907, q48), (1909, q57), (1910, q58), (1913, q14), (1955, q59), (1958, q21)]⟩
def e127_12 : Ent := ⟨127, [.agg #[nt 13, .bool false, sn, sn, .bool false, st [], sn, .bool false, sn, sl 655 0 2 2]], 1999, [(587, q26), (592, q0), (593, q27), (597, q28), (618, q29), (622, q30), (632, q1), (634, q1), (642, q1), (644, q1), (651, q31), (655, q32), (665, q2), (667, q1), (675, q2), (677, q1), (682, q33), (683, q34), (684, q54), (687, q4), (942, q5), (953, q6), (956, q7), (1001, q8), (1050, q9), (1096, q10), (1237, q11), (1461, q12), (1464, q13), (1467, q14), (1512, q15), (1559, q16), (1670, q17), (1717, q18), (1904, q55), (1906, q56), (1907, q48), (1910, q20), (1913, q14), (1958, q21), (2005, q22)], .tuple #[sn, nt 0], 2105, [(587, q26), (592, q0), (593, q27), (597, q28), (618, q29), (622, q30), (632, q1), (634, q1), (642, q1), (644, q1), (651, q31), (655, q32), (665, q2), (667, q1), (675, q2), (677, q1), (682, q33), (683, q34), (684, q54), (687, q4), (942, q5), (953, q6), (956, q7), (1001, q8), (1050, q9), (1096, q10), (1237, q11), (1461, q12), (1464, q13), (1467, q14), (1512, q15), (1559, q16), (1670, q17), (1717, q18), (1904, q55), (1906, q56), (1907, q48), (1910, q20), (1913, q14), (1958, q21), (2005, q22)]⟩
def e127_13 : Ent := ⟨127, [.agg #[nt 2, .bool false, su 675 0 0 1 1, su 677 0 0 1 1, .bool false, st [], sn, .bool false, sn, sl 678 0 0 0]], 2110, [(587, q26), (592, q0), (593, q27), (597, q28), (618, q29), (622, q30), (632, q1), (634, q1), (642, q1), (644, q1), (651, q31), (655, q32), (665, q2), (667, q1), (675, q2), (677, q1), (682, q33), (683, q34), (684, q54), (687, q4), (942, q5), (953, q6), (956, q7), (1001, q8), (1050, q9), (1096, q10), (1237, q11), (1461, q12), (1464, q13), (1467, q14), (1512, q15), (1559, q16), (1670, q17), (1717, q18), (1904, q55), (1906, q56), (1907, q60), (1910, q20), (1913, q14), (1958, q21), (2005, q22), (2113, q61), (2116, q23)], .tuple #[sn, nt 0], 2155, [(587, q26), (592, q0), (593, q27), (597, q28), (618, q29), (622, q30), (632, q1), (634, q1), (642, q1), (644, q1), (651, q31), (655, q32), (665, q2), (667, q1), (675, q2), (677, q1), (682, q33), (683, q34), (684, q54), (687, q4), (942, q5), (953, q6), (956, q7), (1001, q8), (1050, q9), (1096, q10), (1237, q11), (1461, q12), (1464, q13), (1467, q14), (1512, q15), (1559, q16), (1670, q17), (1717, q18), (1904, q55), (1906, q56), (1907, q60), (1910, q20), (1913, q14), (1958, q21), (2005, q22), (2113, q61), (2116, q23)]⟩
def e127_14 : Ent := ⟨127, [.agg #[nt 9, .bool false, sn, sn, .bool false, st [], sn, .bool false, sn, sl 651 0 2 2]], 2157, [(587, q26), (592, q0), (593, q27), (597, q28), (618, q29), (622, q30), (632, q1), (634, q1), (642, q1), (644, q1), (651, q31), (655, q32), (665, q2), (667, q1), (675, q2), (677, q1), (682, q33), (683, q34), (684, q54), (687, q4), (942, q5), (953, q6), (956, q7), (1001, q8), (1050, q9), (1096, q10), (1237, q11), (1461, q12), (1464, q13), (1467, q14), (1512, q15), (1559, q16), (1670, q17), (1717, q18), (1904, q55), (1907, q19), (1910, q20), (1913, q14), (1958, q21), (2005, q22), (2116, q23), (2163, q24)], .tuple #[sn, nt 0], 2342, [(587, q26), (592, q0), (593, q27), (597, q28), (618, q29), (622, q30), (632, q1), (634, q1), (642, q1), (644, q1), (651, q31), (655, q32), (665, q2), (667, q1), (675, q2), (677, q1), (682, q33), (683, q34), (684, q54), (687, q4), (942, q5), (953, q6), (956, q7), (1001, q8), (1050, q9), (1096, q10), (1237, q11), (1461, q12), (1464, q13), (1467, q14), (1512, q15), (1559, q16), (1670, q17), (1717, q18), (1904, q55), (1907, q19), (1910, q20), (1913, q14), (1958, q21), (2005, q22), (2116, q23), (2163, q24)]⟩
def e127_15 : Ent := ⟨127, [.agg #[nt 13, .bool false, sn, sn, .bool false, st [], sn, .bool false, sn, sl 587 0 3 3]], 2344, [(587, q26), (592, q0), (593, q27), (597, q28), (618, q29), (622, q30), (632, q1), (634, q1), (642, q1), (644, q1), (651, q31), (655, q32), (665, q2), (667, q1), (675, q2), (677, q1), (682, q33), (684, q3), (687, q4), (942, q5), (953, q6), (956, q7), (1001, q8), (1050, q9), (1096, q10), (1237, q11), (1461, q12), (1464, q13), (1467, q14), (1512, q15), (1559, q16), (1670, q17), (1717, q18), (1907, q19), (1910, q20), (1913, q14), (1958, q21), (2005, q22), (2116, q23), (2163, q24), (2350, q25)], .tuple #[sn, nt 0], 2944, [(592, q0), (632, q1), (634, q1), (642, q1), (644, q1), (665, q2), (667, q1), (675, q2), (677, q1), (682, q33), (684, q3), (687, q4), (942, q5), (953, q6), (956, q7), (1001, q8), (1050, q9), (1096, q10), (1237, q11), (1461, q12), (1464, q13), (1467, q14), (1512, q15), (1559, q16), (1670, q17), (1717, q18), (1907, q19), (1910, q20), (1913, q14), (1958, q21), (2005, q22), (2116, q23), (2163, q24), (2350, q25)]⟩
def e157 : Ent := ⟨157, [.agg #[nt 13, .bool false, sn, sn, .bool false, st [], sn, .bool false, sn, sl 597 0 3 3]], 1199, [(587, q26), (592, q0), (593, q27), (597, q28), (618, q29), (622, q30), (632, q1), (634, q1), (642, q1), (644, q1), (651, q31), (655, q32), (665, q2), (667, q1), (675, q2), (677, q1), (682, q33), (683, q34), (684, q35), (686, q36), (687, q37), (942, q5), (953, q44), (956, q7), (1001, q8), (1050, q9), (1096, q10)], su 1235 0 0 2 1, 1229, [(587, q26), (592, q0), (593, q27), (597, q28), (618, q29), (622, q30), (632, q1), (634, q1), (642, q1), (644, q1), (651, q31), (655, q32), (665, q2), (667, q1), (675, q2), (677, q1), (682, q33), (683, q34), (684, q35), (686, q36), (687, q37), (942, q5), (953, q44), (956, q7), (1001, q8), (1050, q9), (1096, q10)]⟩
def f21 : Fre := ⟨21, [st [40, 40, 108, 97, 109, 98, 100, 97, 32, 40, 120, 32, 121, 41, 32, 40, 108, 105, 115, 116, 32, 120, 32, 121, 41, 41, 32, 40, 98, 101, 103, 105, 110, 32, 40, 119, 114, 105, 116, 101, 32, 49, 41, 32, 49, 41, 32, 40, 98, 101, 103, 105, 110, 32, 40, 119, 114, 105, 116, 101, 32, 50, 41, 32, 50, 41, 41], nt 99, nt 9], .tuple #[su 10754 0 0 2 6, .bool true, nt 0, nt 0], 10748, [(6760, q62), (6762, q63), (6871, q64), (10636, q65), (10638, q66), (10747, q64), (10754, q67)]⟩
def e12_0 : Ent := ⟨12, [pt 5996 0, nt 99], 5990, [(7, q68), (8, q69), (9, q70), (10, q71), (11, q72), (3002, q69), (3003, q73), (3004, q74), (3005, q75), (3006, q76), (3592, q0), (3632, q1), (3634, q1), (3642, q1), (3644, q1), (3665, q2), (3667, q1), (3675, q2), (3677, q1), (3687, q77), (3942, q5), (3953, q78), (3956, q7), (4001, q79), (4050, q80), (4096, q81), (4237, q82), (4461, q83), (4464, q84), (4467, q14), (4512, q85), (4559, q86), (4670, q87), (4717, q88), (4907, q89), (4910, q90), (4913, q14), (4958, q91), (5005, q92), (5116, q93), (5163, q94), (5951, q95), (5959, q96), (5996, q97)], .agg #[nt 0, nt 1, su 6871 0 0 1 1, nt 10, su 6760 0 0 2 1, su 6762 0 0 1 2], 6865, [(7, q68), (8, q69), (9, q70), (10, q71), (11, q72), (3002, q69), (3003, q73), (3004, q74), (3005, q75), (6760, q62), (6762, q63), (6871, q64)]⟩
def e12_1 : Ent := ⟨12, [pt 9872 0, nt 99], 9866, [(8, q69), (9, q70), (10, q71), (11, q72), (3002, q98), (6760, q62), (6762, q63), (6871, q64), (6878, q99), (6879, q75), (6881, q100), (6882, q101), (7468, q0), (7508, q1), (7510, q1), (7518, q1), (7520, q1), (7541, q2), (7543, q1), (7551, q2), (7553, q1), (7563, q102), (7818, q5), (7829, q103), (7832, q7), (7877, q104), (7926, q105), (7972, q106), (8113, q107), (8337, q108), (8340, q109), (8343, q14), (8388, q110), (8435, q111), (8546, q112), (8593, q113), (8783, q114), (8786, q115), (8789, q14), (8834, q116), (8881, q117), (8992, q118), (9039, q119), (9827, q120), (9835, q121), (9872, q122)], .agg #[nt 0, nt 1, su 10747 0 0 1 1, nt 10, su 10636 0 0 2 1, su 10638 0 0 1 2], 10741, [(8, q69), (9, q70), (10, q71), (11, q72), (3002, q98), (6760, q62), (6762, q63), (6871, q64), (6878, q99), (6879, q75), (10636, q65), (10638, q66), (10747, q64)]⟩
def e12_2 : Ent := ⟨12, [pt 16746 0, nt 99], 16740, [(6760, q62), (6871, q64), (10636, q65), (10638, q66), (10747, q64), (10754, q67), (10755, q123), (10759, q75), (13753, q75), (13755, q100), (13756, q124), (14342, q0), (14382, q1), (14384, q1), (14392, q1), (14394, q1), (14415, q2), (14417, q1), (14425, q2), (14427, q1), (14437, q125), (14692, q5), (14703, q126), (14706, q7), (14751, q127), (14800, q128), (14846, q129), (14987, q130), (15211, q131), (15214, q132), (15217, q14), (15262, q133), (15309, q134), (15420, q135), (15467, q136), (15657, q137), (15660, q138), (15663, q14), (15708, q139), (15755, q140), (15866, q141), (15913, q142), (16701, q143), (16709, q144), (16746, q145)], .agg #[nt 0, nt 1, su 17621 0 0 1 1, nt 10, su 17510 0 0 2 1, su 17512 0 0 1 2], 17615, [(6760, q62), (6871, q64), (10636, q65), (10638, q66), (10747, q64), (10754, q67), (10755, q123), (10759, q75), (13753, q75), (17510, q65), (17512, q66), (17621, q64)]⟩
def fpL : Fre := ⟨183, [st [108, 105, 115, 116]], .bool true, 0, []⟩
def fpW : Fre := ⟨183, [st [119, 114, 105, 116, 101]], .bool true, 0, []⟩
def fpX : Fre := ⟨183, [st [120]], .bool false, 0, []⟩
def fpY : Fre := ⟨183, [st [121]], .bool false, 0, []⟩
def faL : Fre := ⟨135, [st [108, 105, 115, 116]], .tuple #[nt 0, nt (-1), .bool true], 0, []⟩
def faW : Fre := ⟨135, [st [119, 114, 105, 116, 101]], .tuple #[nt 1, nt 1, .bool true], 1, []⟩
/-- The calls that are told from the start. -/
noncomputable def K0 : Look := flook [fpX, fpY, fpL, fpW]
noncomputable def K1 : Look := flook [fpX, fpY, fpL, fpW, faL, faW]

end Go.Proofs.YthhhmmildgijhaaGreatDoorAI
set_option linter.unusedVariables false
namespace Go.Proofs.YthhhmmildgijhaaGreatDoorAI
open Go

set_option maxRecDepth 1000000 in
theorem fpX_k : endsSo fpX.v fpX.cnt' fpX.outs (gcall Tryz.prog noKs noL 3000 fpX.g fpX.args .empty) = true := by kernel_rfl
set_option maxRecDepth 1000000 in
theorem fpY_k : endsSo fpY.v fpY.cnt' fpY.outs (gcall Tryz.prog noKs noL 3000 fpY.g fpY.args .empty) = true := by kernel_rfl
set_option maxRecDepth 1000000 in
theorem fpL_k : endsSo fpL.v fpL.cnt' fpL.outs (gcall Tryz.prog noKs noL 3000 fpL.g fpL.args .empty) = true := by kernel_rfl
set_option maxRecDepth 1000000 in
theorem fpW_k : endsSo fpW.v fpW.cnt' fpW.outs (gcall Tryz.prog noKs noL 3000 fpW.g fpW.args .empty) = true := by kernel_rfl

theorem K0_ok (base : Nat) : LookOK Tryz.prog base K0 :=
  .fres (.cons (.run mixed exts noKs .none fpX_k) (.cons (.run mixed exts noKs .none fpY_k) (.cons (.run mixed exts noKs .none fpL_k) (.cons (.run mixed exts noKs .none fpW_k) .nil))))

end Go.Proofs.YthhhmmildgijhaaGreatDoorAI
set_option linter.unusedVariables false
namespace Go.Proofs.YthhhmmildgijhaaGreatDoorAI
open Go

set_option maxRecDepth 1000000 in
theorem faL_k : endsSo faL.v faL.cnt' faL.outs (gcall Tryz.prog noKs K0 3000 faL.g faL.args .empty) = true := by kernel_rfl
set_option maxRecDepth 1000000 in
theorem faW_k : endsSo faW.v faW.cnt' faW.outs (gcall Tryz.prog noKs K0 3000 faW.g faW.args .empty) = true := by kernel_rfl

theorem K1_ok (base : Nat) : LookOK Tryz.prog base K1 :=
  .fres (.cons (.run mixed exts noKs .none fpX_k) (.cons (.run mixed exts noKs .none fpY_k) (.cons (.run mixed exts noKs .none fpL_k) (.cons (.run mixed exts noKs .none fpW_k) (.cons (.run mixed exts noKs (K0_ok base) faL_k) (.cons (.run mixed exts noKs (K0_ok base) faW_k) .nil))))))

end Go.Proofs.YthhhmmildgijhaaGreatDoorAI
