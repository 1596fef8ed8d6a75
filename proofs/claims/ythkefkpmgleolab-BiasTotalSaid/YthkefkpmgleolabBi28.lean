/- The law BiasTotal, put together. -/
import Derived.Test.YthkefkpmgleolabBi25
import Derived.Test.YthkefkpmgleolabBi26
import Derived.Test.YthkefkpmgleolabBi27
set_option linter.unusedVariables false
set_option linter.unusedSimpArgs false
namespace Go.Proofs.Ythkefkpmgleolab.Bi
open Go Go.Proofs Go.RowKit Go.Proofs.YthkefkpmgleolabAI Go.Proofs.YthkefkpmgleolabFl Go.Proofs.YthkefkpmgleolabSrt

theorem use1 {α : Type} {ks : List Nat} {F : Step} {t : Tm} {h : Heap} {rr : Option (AEx × Tm × Heap)} {f : α → Option (AEx × Tm × Heap)} (hl : loopω ks F t h = rr) (H : ∃ x, loopω ks F t h = f x) : ∃ x, rr = f x := hl ▸ H
theorem use4 {α : Type} {ks : List Nat} {F : Step} {t : Tm} {h : Heap} {rr : Option (AEx × Tm × Heap)} {f : α → α → α → α → Option (AEx × Tm × Heap)} (hl : loopω ks F t h = rr) (H : ∃ x y z w, loopω ks F t h = f x y z w) : ∃ x y z w, rr = f x y z w := hl ▸ H
set_option maxRecDepth 20000 in
theorem tot1F {h1 : Heap} {a1 : Option Addr} {c1 : Nat} {ws : List Nat} {x y : Nat} (hx64 : x < 18446744073709551616) (hy64 : y < 18446744073709551616) (hw : W64 ws) (hk : ws.length * 8 ≤ 2 ^ 47) (hv : Sl h1 (.slice a1 ws.length c1) 1 ws.length (fl ws)) (F : Step) (hF : F = aexecP Try.prog (sB 6) (run Try.prog sB) loopω pt6 (lb6 0)) (t : Tm)
    (ht : forget [0, 1, 2, 3, 4, 5, 6, 11, 12, 13, 14, 15, 16, 17, 18, 19, 20, 21, 22, 23, 24, 25, 26, 27, 28, 29, 30, 31, 32, 33, 34, 35, 36, 37, 38, 39, 40, 41, 42, 43, 44, 45, 46, 47, 48, 49, 50, 51, 52, 53, 54, 55, 56, 57, 58, 59, 60, 61, 62, 63, 64, 65, 66, 67, 68, 69, 70, 71, 72, 73, 74, 75, 76, 77, 78, 79, 80, 81, 82, 83, 86, 87, 88, 89, 90, 91, 92, 93, 94, 95, 96, 97, 98, 99, 100, 101, 102, 103, 104, 105, 106, 107, 108, 109, 110, 111, 112, 113, 114, 115, 116, 117, 118, 119, 120, 121, 122, 123, 124, 125, 126, 127, 128, 129, 130, 131, 132, 133, 134, 135, 136, 137, 138, 139, 140, 141, 142, 143, 144, 145, 146, 147, 148, 149, 150, 151, 152, 153, 154, 155, 156, 157, 158, 159, 160, 161, 162, 163, 164, 165, 166, 167, 168, 169, 170, 171, 172, 173, 174, 175, 176, 177, 178, 179, 180, 181, 182, 183, 184, 185, 186, 187, 188, 189, 190, 191, 192, 193, 194, 195, 196, 197, 198, 199, 200, 201, 202, 203, 204, 205, 206, 207, 208, 209, 210, 211, 212, 213, 214, 215, 216, 217, 218, 219, 220, 221, 222, 223, 224, 225, 226, 227, 228, 229, 230, 231, 232, 233, 234, 235, 236, 237] t = [unk, unk, unk, unk, unk, unk, unk, Fl x, Fl y, .int .i64 (cmpK x y), .slice a1 ws.length c1, unk, unk, unk, unk, unk, unk, unk, unk, unk, unk, unk, unk, unk, unk, unk, unk, unk, unk, unk, unk, unk, unk, unk, unk, unk, unk, unk, unk, unk, unk, unk, unk, unk, unk, unk, unk, unk, unk, unk, unk, unk, unk, unk, unk, unk, unk, unk, unk, unk, unk, unk, unk, unk, unk, unk, unk, unk, unk, unk, unk, unk, unk, unk, unk, unk, unk, unk, unk, unk, unk, unk, unk, unk, .int .i64 ws.length, .int .i64 0, unk, unk, unk, unk, unk, unk, unk, unk, unk, unk, unk, unk, unk, unk, unk, unk, unk, unk, unk, unk, unk, unk, unk, unk, unk, unk, unk, unk, unk, unk, unk, unk, unk, unk, unk, unk, unk, unk, unk, unk, unk, unk, unk, unk, unk, unk, unk, unk, unk, unk, unk, unk, unk, unk, unk, unk, unk, unk, unk, unk, unk, unk, unk, unk, unk, unk, unk, unk, unk, unk, unk, unk, unk, unk, unk, unk, unk, unk, unk, unk, unk, unk, unk, unk, unk, unk, unk, unk, unk, unk, unk, unk, unk, unk, unk, unk, unk, unk, unk, unk, unk, unk, unk, unk, unk, unk, unk, unk, unk, unk, unk, unk, unk, unk, unk, unk, unk, unk, unk, unk, unk, unk, unk, unk, unk, unk, unk, unk, unk, unk, unk, unk, unk, unk, unk, unk, unk, unk, unk, unk, unk, unk, unk, unk, unk, unk, unk, unk, unk, unk, unk, unk]) :
    ∃ x86, loopω [0, 1, 2, 3, 4, 5, 6, 11, 12, 13, 14, 15, 16, 17, 18, 19, 20, 21, 22, 23, 24, 25, 26, 27, 28, 29, 30, 31, 32, 33, 34, 35, 36, 37, 38, 39, 40, 41, 42, 43, 44, 45, 46, 47, 48, 49, 50, 51, 52, 53, 54, 55, 56, 57, 58, 59, 60, 61, 62, 63, 64, 65, 66, 67, 68, 69, 70, 71, 72, 73, 74, 75, 76, 77, 78, 79, 80, 81, 82, 83, 86, 87, 88, 89, 90, 91, 92, 93, 94, 95, 96, 97, 98, 99, 100, 101, 102, 103, 104, 105, 106, 107, 108, 109, 110, 111, 112, 113, 114, 115, 116, 117, 118, 119, 120, 121, 122, 123, 124, 125, 126, 127, 128, 129, 130, 131, 132, 133, 134, 135, 136, 137, 138, 139, 140, 141, 142, 143, 144, 145, 146, 147, 148, 149, 150, 151, 152, 153, 154, 155, 156, 157, 158, 159, 160, 161, 162, 163, 164, 165, 166, 167, 168, 169, 170, 171, 172, 173, 174, 175, 176, 177, 178, 179, 180, 181, 182, 183, 184, 185, 186, 187, 188, 189, 190, 191, 192, 193, 194, 195, 196, 197, 198, 199, 200, 201, 202, 203, 204, 205, 206, 207, 208, 209, 210, 211, 212, 213, 214, 215, 216, 217, 218, 219, 220, 221, 222, 223, 224, 225, 226, 227, 228, 229, 230, 231, 232, 233, 234, 235, 236, 237] F t h1 = some (.exit 0, [unk, unk, unk, unk, unk, unk, unk, Fl x, Fl y, .int .i64 (cmpK x y), .slice a1 ws.length c1, unk, unk, unk, unk, unk, unk, unk, unk, unk, unk, unk, unk, unk, unk, unk, unk, unk, unk, unk, unk, unk, unk, unk, unk, unk, unk, unk, unk, unk, unk, unk, unk, unk, unk, unk, unk, unk, unk, unk, unk, unk, unk, unk, unk, unk, unk, unk, unk, unk, unk, unk, unk, unk, unk, unk, unk, unk, unk, unk, unk, unk, unk, unk, unk, unk, unk, unk, unk, unk, unk, unk, unk, unk, .int .i64 ws.length, .int .i64 ws.length, x86, unk, unk, unk, unk, unk, unk, unk, unk, unk, unk, unk, unk, unk, unk, unk, unk, unk, unk, unk, unk, unk, unk, unk, unk, unk, unk, unk, unk, unk, unk, unk, unk, unk, unk, unk, unk, unk, unk, unk, unk, unk, unk, unk, unk, unk, unk, unk, unk, unk, unk, unk, unk, unk, unk, unk, unk, unk, unk, unk, unk, unk, unk, unk, unk, unk, unk, unk, unk, unk, unk, unk, unk, unk, unk, unk, unk, unk, unk, unk, unk, unk, unk, unk, unk, unk, unk, unk, unk, unk, unk, unk, unk, unk, unk, unk, unk, unk, unk, unk, unk, unk, unk, unk, unk, unk, unk, unk, unk, unk, unk, unk, unk, unk, unk, unk, unk, unk, unk, unk, unk, unk, unk, unk, unk, unk, unk, unk, unk, unk, unk, unk, unk, unk, unk, unk, unk, unk, unk, unk, unk, unk, unk, unk, unk, unk, unk, unk, unk, unk, unk, unk], h1) := by subst hF; exact tot1 hx64 hy64 hw hk hv t ht
set_option maxRecDepth 20000 in
theorem tot2F {h1 : Heap} {a1 : Option Addr} {c1 q : Nat} {ws : List Nat} (hq : bsTo ws ws.length = (q : Int)) (hqn : q < ws.length) (hw : W64 ws) (hk : ws.length * 8 ≤ 2 ^ 47) (hv : Sl h1 (.slice a1 ws.length c1) 1 ws.length (fl ws)) (F : Step) (hF : F = aexecP Try.prog (sB 6) (run Try.prog sB) loopω pt6 (lb6 1)) (t : Tm)
    (ht : forget [0, 1, 2, 3, 4, 5, 6, 7, 8, 9, 11, 12, 13, 15, 16, 17, 18, 19, 20, 21, 22, 23, 24, 25, 26, 27, 28, 29, 30, 31, 32, 33, 34, 35, 36, 37, 38, 39, 40, 41, 42, 43, 44, 45, 46, 47, 48, 49, 50, 51, 52, 53, 54, 55, 56, 57, 58, 59, 60, 61, 62, 63, 64, 65, 66, 67, 68, 69, 70, 71, 72, 73, 74, 75, 76, 77, 78, 79, 80, 81, 82, 83, 84, 85, 86, 87, 88, 89, 90, 91, 92, 93, 94, 95, 96, 97, 98, 99, 100, 101, 102, 103, 104, 105, 106, 107, 108, 109, 110, 111, 112, 113, 114, 115, 116, 117, 118, 119, 120, 121, 122, 123, 124, 125, 126, 127, 128, 129, 130, 131, 132, 133, 134, 135, 136, 137, 138, 139, 140, 141, 142, 143, 144, 147, 148, 149, 150, 151, 152, 153, 154, 155, 156, 157, 158, 159, 160, 161, 162, 163, 164, 165, 166, 167, 168, 169, 170, 171, 172, 173, 174, 175, 176, 177, 178, 179, 180, 181, 182, 183, 184, 185, 186, 187, 188, 189, 190, 191, 192, 193, 194, 195, 196, 197, 198, 199, 200, 201, 202, 203, 204, 205, 206, 207, 208, 209, 210, 211, 212, 213, 214, 215, 216, 217, 218, 219, 220, 221, 222, 223, 224, 225, 226, 227, 228, 229, 230, 231, 232, 233, 234, 235, 236, 237] t = [unk, unk, unk, unk, unk, unk, unk, unk, unk, unk, .slice a1 ws.length c1, unk, unk, unk, .int .i64 (q : Nat), unk, unk, unk, unk, unk, unk, unk, unk, unk, unk, unk, unk, unk, unk, unk, unk, unk, unk, unk, unk, unk, unk, unk, unk, unk, unk, unk, unk, unk, unk, unk, unk, unk, unk, unk, unk, unk, unk, unk, unk, unk, unk, unk, unk, unk, unk, unk, unk, unk, unk, unk, unk, unk, unk, unk, unk, unk, unk, unk, unk, unk, unk, unk, unk, unk, unk, unk, unk, unk, unk, unk, unk, unk, unk, unk, unk, unk, unk, unk, unk, unk, unk, unk, unk, unk, unk, unk, unk, unk, unk, unk, unk, unk, unk, unk, unk, unk, unk, unk, unk, unk, unk, unk, unk, unk, unk, unk, unk, unk, unk, unk, unk, unk, unk, unk, unk, unk, unk, unk, unk, unk, unk, unk, unk, unk, unk, unk, unk, unk, unk, .int .i64 ws.length, .int .i64 0, unk, unk, unk, unk, unk, unk, unk, unk, unk, unk, unk, unk, unk, unk, unk, unk, unk, unk, unk, unk, unk, unk, unk, unk, unk, unk, unk, unk, unk, unk, unk, unk, unk, unk, unk, unk, unk, unk, unk, unk, unk, unk, unk, unk, unk, unk, unk, unk, unk, unk, unk, unk, unk, unk, unk, unk, unk, unk, unk, unk, unk, unk, unk, unk, unk, unk, unk, unk, unk, unk, unk, unk, unk, unk, unk, unk, unk, unk, unk, unk, unk, unk, unk, unk, unk, unk, unk, unk, unk, unk, unk]) :
    ∃ x86, loopω [0, 1, 2, 3, 4, 5, 6, 7, 8, 9, 11, 12, 13, 15, 16, 17, 18, 19, 20, 21, 22, 23, 24, 25, 26, 27, 28, 29, 30, 31, 32, 33, 34, 35, 36, 37, 38, 39, 40, 41, 42, 43, 44, 45, 46, 47, 48, 49, 50, 51, 52, 53, 54, 55, 56, 57, 58, 59, 60, 61, 62, 63, 64, 65, 66, 67, 68, 69, 70, 71, 72, 73, 74, 75, 76, 77, 78, 79, 80, 81, 82, 83, 84, 85, 86, 87, 88, 89, 90, 91, 92, 93, 94, 95, 96, 97, 98, 99, 100, 101, 102, 103, 104, 105, 106, 107, 108, 109, 110, 111, 112, 113, 114, 115, 116, 117, 118, 119, 120, 121, 122, 123, 124, 125, 126, 127, 128, 129, 130, 131, 132, 133, 134, 135, 136, 137, 138, 139, 140, 141, 142, 143, 144, 147, 148, 149, 150, 151, 152, 153, 154, 155, 156, 157, 158, 159, 160, 161, 162, 163, 164, 165, 166, 167, 168, 169, 170, 171, 172, 173, 174, 175, 176, 177, 178, 179, 180, 181, 182, 183, 184, 185, 186, 187, 188, 189, 190, 191, 192, 193, 194, 195, 196, 197, 198, 199, 200, 201, 202, 203, 204, 205, 206, 207, 208, 209, 210, 211, 212, 213, 214, 215, 216, 217, 218, 219, 220, 221, 222, 223, 224, 225, 226, 227, 228, 229, 230, 231, 232, 233, 234, 235, 236, 237] F t h1 = some (.exit 2, [unk, unk, unk, unk, unk, unk, unk, unk, unk, unk, .slice a1 ws.length c1, unk, unk, unk, .int .i64 (q : Nat), unk, unk, unk, unk, unk, unk, unk, unk, unk, unk, unk, unk, unk, unk, unk, unk, unk, unk, unk, unk, unk, unk, unk, unk, unk, unk, unk, unk, unk, unk, unk, unk, unk, unk, unk, unk, unk, unk, unk, unk, unk, unk, unk, unk, unk, unk, unk, unk, unk, unk, unk, unk, unk, unk, unk, unk, unk, unk, unk, unk, unk, unk, unk, unk, unk, unk, unk, unk, unk, unk, unk, unk, unk, unk, unk, unk, unk, unk, unk, unk, unk, unk, unk, unk, unk, unk, unk, unk, unk, unk, unk, unk, unk, unk, unk, unk, unk, unk, unk, unk, unk, unk, unk, unk, unk, unk, unk, unk, unk, unk, unk, unk, unk, unk, unk, unk, unk, unk, unk, unk, unk, unk, unk, unk, unk, unk, unk, unk, unk, unk, .int .i64 ws.length, .int .i64 ws.length, x86, unk, unk, unk, unk, unk, unk, unk, unk, unk, unk, unk, unk, unk, unk, unk, unk, unk, unk, unk, unk, unk, unk, unk, unk, unk, unk, unk, unk, unk, unk, unk, unk, unk, unk, unk, unk, unk, unk, unk, unk, unk, unk, unk, unk, unk, unk, unk, unk, unk, unk, unk, unk, unk, unk, unk, unk, unk, unk, unk, unk, unk, unk, unk, unk, unk, unk, unk, unk, unk, unk, unk, unk, unk, unk, unk, unk, unk, unk, unk, unk, unk, unk, unk, unk, unk, unk, unk, unk, unk, unk], h1) := by subst hF; exact tot2 hq hqn hw hk hv t ht
set_option maxRecDepth 20000 in
theorem tot3F {h3 : Heap} {a1 : Option Addr} {c1 m n : Nat} {ws : List Nat} {l : List Int} (hn : ws.length = n) (h0 : 0 < n) (hR : RankOf ws l) (hw : W64 ws) (hk : n * 8 ≤ 2 ^ 47) (hv : Sl h3 (.slice a1 n c1) 1 n (fl ws)) (hg3 : h3.get m = some (.cells (ints l) 3 1 false false)) (F : Step) (hF : F = aexecP Try.prog (sB 6) (run Try.prog sB) loopω pt6 (lb6 2)) (t : Tm)
    (ht : forget [0, 1, 2, 3, 4, 5, 6, 7, 8, 9, 11, 12, 13, 14, 15, 16, 19, 20, 21, 22, 23, 24, 25, 26, 27, 28, 29, 30, 31, 32, 33, 34, 35, 36, 37, 38, 39, 40, 41, 42, 43, 44, 45, 46, 47, 48, 49, 50, 51, 52, 53, 54, 55, 56, 57, 58, 59, 60, 61, 62, 63, 64, 65, 66, 67, 68, 69, 70, 71, 72, 73, 74, 75, 76, 77, 78, 79, 80, 81, 82, 83, 84, 85, 86, 87, 88, 89, 90, 91, 92, 93, 94, 95, 96, 97, 98, 99, 100, 101, 102, 103, 104, 105, 106, 107, 108, 109, 110, 111, 112, 113, 114, 115, 116, 117, 118, 119, 120, 121, 122, 123, 124, 125, 126, 127, 128, 129, 130, 131, 132, 133, 134, 135, 136, 137, 138, 139, 140, 141, 142, 143, 144, 145, 146, 147, 148, 149, 150, 151, 152, 153, 154, 155, 156, 157, 158, 159, 160, 161, 162, 163, 164, 165, 166, 167, 168, 169, 170, 171, 172, 173, 174, 175, 176, 177, 178, 179, 180, 181, 182, 183, 184, 185, 186, 187, 188, 189, 190, 191, 192, 193, 194, 195, 196, 197, 198, 199, 200, 201, 202, 203, 204, 205, 206, 207, 208, 209, 210, 211, 212, 213, 214, 215, 216, 217, 218, 219, 220, 221, 222, 223, 224, 225, 226, 227, 228, 229, 230, 231, 232, 233, 234, 235, 236, 237] t = [unk, unk, unk, unk, unk, unk, unk, unk, unk, unk, .slice a1 n c1, unk, unk, unk, unk, unk, unk, V m n, .int .i64 1, unk, unk, unk, unk, unk, unk, unk, unk, unk, unk, unk, unk, unk, unk, unk, unk, unk, unk, unk, unk, unk, unk, unk, unk, unk, unk, unk, unk, unk, unk, unk, unk, unk, unk, unk, unk, unk, unk, unk, unk, unk, unk, unk, unk, unk, unk, unk, unk, unk, unk, unk, unk, unk, unk, unk, unk, unk, unk, unk, unk, unk, unk, unk, unk, unk, unk, unk, unk, unk, unk, unk, unk, unk, unk, unk, unk, unk, unk, unk, unk, unk, unk, unk, unk, unk, unk, unk, unk, unk, unk, unk, unk, unk, unk, unk, unk, unk, unk, unk, unk, unk, unk, unk, unk, unk, unk, unk, unk, unk, unk, unk, unk, unk, unk, unk, unk, unk, unk, unk, unk, unk, unk, unk, unk, unk, unk, unk, unk, unk, unk, unk, unk, unk, unk, unk, unk, unk, unk, unk, unk, unk, unk, unk, unk, unk, unk, unk, unk, unk, unk, unk, unk, unk, unk, unk, unk, unk, unk, unk, unk, unk, unk, unk, unk, unk, unk, unk, unk, unk, unk, unk, unk, unk, unk, unk, unk, unk, unk, unk, unk, unk, unk, unk, unk, unk, unk, unk, unk, unk, unk, unk, unk, unk, unk, unk, unk, unk, unk, unk, unk, unk, unk, unk, unk, unk, unk, unk, unk, unk, unk, unk, unk, unk, unk, unk, unk, unk, unk, unk]) :
    ∃ x1 x2 x3 x4, loopω [0, 1, 2, 3, 4, 5, 6, 7, 8, 9, 11, 12, 13, 14, 15, 16, 19, 20, 21, 22, 23, 24, 25, 26, 27, 28, 29, 30, 31, 32, 33, 34, 35, 36, 37, 38, 39, 40, 41, 42, 43, 44, 45, 46, 47, 48, 49, 50, 51, 52, 53, 54, 55, 56, 57, 58, 59, 60, 61, 62, 63, 64, 65, 66, 67, 68, 69, 70, 71, 72, 73, 74, 75, 76, 77, 78, 79, 80, 81, 82, 83, 84, 85, 86, 87, 88, 89, 90, 91, 92, 93, 94, 95, 96, 97, 98, 99, 100, 101, 102, 103, 104, 105, 106, 107, 108, 109, 110, 111, 112, 113, 114, 115, 116, 117, 118, 119, 120, 121, 122, 123, 124, 125, 126, 127, 128, 129, 130, 131, 132, 133, 134, 135, 136, 137, 138, 139, 140, 141, 142, 143, 144, 145, 146, 147, 148, 149, 150, 151, 152, 153, 154, 155, 156, 157, 158, 159, 160, 161, 162, 163, 164, 165, 166, 167, 168, 169, 170, 171, 172, 173, 174, 175, 176, 177, 178, 179, 180, 181, 182, 183, 184, 185, 186, 187, 188, 189, 190, 191, 192, 193, 194, 195, 196, 197, 198, 199, 200, 201, 202, 203, 204, 205, 206, 207, 208, 209, 210, 211, 212, 213, 214, 215, 216, 217, 218, 219, 220, 221, 222, 223, 224, 225, 226, 227, 228, 229, 230, 231, 232, 233, 234, 235, 236, 237] F t h3 = some (.exit 4, [unk, unk, unk, unk, unk, unk, unk, unk, unk, unk, .slice a1 n c1, unk, unk, unk, unk, unk, unk, V m n, .int .i64 n, unk, unk, unk, unk, unk, unk, unk, unk, unk, unk, unk, unk, unk, unk, unk, unk, unk, unk, unk, unk, unk, unk, unk, unk, unk, unk, unk, unk, unk, unk, unk, unk, unk, unk, unk, unk, unk, unk, unk, unk, unk, unk, unk, unk, unk, unk, unk, unk, unk, unk, unk, unk, unk, unk, unk, unk, unk, unk, unk, unk, unk, unk, unk, unk, unk, unk, unk, unk, unk, unk, unk, unk, unk, unk, unk, unk, unk, unk, unk, unk, unk, unk, unk, unk, unk, unk, unk, unk, unk, unk, unk, unk, unk, unk, unk, unk, unk, unk, unk, unk, unk, unk, unk, unk, unk, unk, unk, unk, unk, unk, unk, unk, unk, unk, unk, unk, unk, unk, unk, unk, unk, unk, unk, unk, unk, unk, unk, unk, unk, unk, unk, unk, unk, unk, unk, unk, unk, unk, unk, unk, unk, unk, unk, unk, unk, unk, unk, unk, unk, unk, unk, unk, unk, unk, unk, unk, unk, unk, unk, unk, unk, unk, unk, unk, unk, x1, x2, x3, x4, unk, unk, unk, unk, unk, unk, unk, unk, unk, unk, unk, unk, unk, unk, unk, unk, unk, unk, unk, unk, unk, unk, unk, unk, unk, unk, unk, unk, unk, unk, unk, unk, unk, unk, unk, unk, unk, unk, unk, unk, unk, unk, unk, unk, unk, unk, unk, unk, unk, unk], h3) := by subst hF; exact tot3 hn h0 hR hw hk hv hg3 t ht
theorem cmpK_rng (a b : Nat) : ¬ cmpK a b < -1 ∧ ¬ 1 < cmpK a b ∧ cmpK b a = -cmpK a b ∧ (cmpK a b = -1 ∨ cmpK a b = 0 ∨ cmpK a b = 1) := by
  unfold cmpK; repeat' split
  all_goals omega
theorem neg_wrap {c : Int} (h : c = -1 ∨ c = 0 ∨ c = 1) : IntKind.i64.wrap (0 - c) = -c ∧ IntKind.i64.wrap (-c) = -c := by
  rcases h with rfl | rfl | rfl <;> exact ⟨IntWalk.i64_in _ (by omega), IntWalk.i64_in _ (by omega)⟩
/-- What is asked of two floats. -/
theorem two {x y : Nat} (hx : x < 18446744073709551616) (hy : y < 18446744073709551616) :
    (cmpK x y = 0 → x ≠ y → isN x = true ∧ isN y = true) ∧ (isN x = false → isN y = false → sv x < sv y → cmpK x y = -1) := by
  refine ⟨fun h1 h2 => ?_, fun h1 h2 h3 => cmpK_lt (sv_key hx hy h1 h2 h3)⟩
  have hk : key x = key y := by
    unfold cmpK at h1; split at h1
    · omega
    · split at h1 <;> omega
  have a1 : isN x = true := by
    cases h : isN x with
    | true => rfl
    | false => exact absurd (key_inj hx hy hk h) h2
  have a2 : isN y = true := by rw [key_nan, ← hk, ← key_nan]; exact a1
  exact ⟨a1, a2⟩

set_option maxRecDepth 20000 in
set_option maxHeartbeats 12800000 in
theorem total {h : Heap} {v : Value} {ws : List Nat} {x y : Nat} (hx64 : x < 18446744073709551616) (hy64 : y < 18446744073709551616) (hv : Sl h v 1 ws.length (us ws)) (hw : W64 ws) (hk : ws.length * 8 ≤ 2 ^ 47) : ∃ h', run Try.prog sB 6 [U x, U y, v] h = some (.bool true, h') := by
  obtain ⟨hw0, w⟩ := wakesB
  obtain ⟨v1, h1, e13, l1, k1, n1⟩ := floats_run hv hw hk
  have eb := best_run l1.sl hw (by omega)
  obtain ⟨m, h3, l, e3, hll, hg3, k3, hm3, hR⟩ := rank_run l1.sl hw hk
  have hl3 := l1.sl.keep k3 fun _ _ x => x
  obtain ⟨va, vc, rfl⟩ := sl_form hv
  obtain ⟨a1, c1, rfl⟩ := sl_form l1.sl
  have cxy := cmp_run sB x y hx64 hy64 h
  have cyx := cmp_run sB y x hy64 hx64 h
  have fxx := feq_self x hx64
  have fyy := feq_self y hy64
  have fl_ := flt x y hx64 hy64
  have q1 := fun t X Y hx hy => feql t X Y x x hx hy hx64 hx64
  have q2 := fun t X Y hx hy => feql t X Y y y hx hy hy64 hy64
  have q3 := fun t X Y hx hy => flss t X Y x y hx hy hx64 hy64
  have q4 := fun t X hx => fb25 t X x hx hx64
  have q5 := fun t X hx => fb25 t X y hx hy64
  obtain ⟨r1, r2, r3, r4⟩ := cmpK_rng x y
  obtain ⟨r5, r6⟩ := neg_wrap r4
  obtain ⟨t1, t2⟩ := two hx64 hy64
  have tl1 := fun F hF t => tot1F (x := x) (y := y) hx64 hy64 hw hk l1.sl F hF t
  rw [r3] at cyx
  clear r3
  suffices hxx : ∃ y', fin Try.prog Try.f6 (aexecP Try.prog (sB 6) (run Try.prog sB) loopω pt6 (Try.f6.body.getD .skip) ([U x, U y, .slice va ws.length vc] ++ List.replicate (Try.f6.ntmps - 3) undef) h) = some y' ∧ y'.1 = .bool true by
    obtain ⟨⟨y1, y2⟩, hy, rfl⟩ := hxx
    exact ⟨y2, run_finP pt6 Try.func6 rfl planned6 hy⟩
  generalize hC : cmpK x y = C at *
  have hcases : (C = 0 ∧ y = x ∧ isN x = false) ∨ (C = 0 ∧ y = x ∧ isN x = true) ∨ (C = 0 ∧ ¬ x = y ∧ isN x = true ∧ isN y = true) ∨ (¬ C = 0 ∧ isN x = true) ∨ (¬ C = 0 ∧ isN x = false ∧ isN y = true) ∨ (¬ C = 0 ∧ isN x = false ∧ isN y = false ∧ sv x < sv y ∧ C = -1) ∨ (¬ C = 0 ∧ isN x = false ∧ isN y = false ∧ ¬ sv x < sv y) := by
    by_cases c0 : C = 0
    · by_cases e0 : y = x
      · cases hn : isN x
        · exact .inl ⟨c0, e0, rfl⟩
        · exact .inr (.inl ⟨c0, e0, rfl⟩)
      · obtain ⟨u1, u2⟩ := t1 c0 (fun e => e0 e.symm)
        exact .inr (.inr (.inl ⟨c0, fun e => e0 e.symm, u1, u2⟩))
    · cases hn : isN x
      · cases hm : isN y
        · by_cases hs : sv x < sv y
          · exact .inr (.inr (.inr (.inr (.inr (.inl ⟨c0, rfl, rfl, hs, t2 hn hm hs⟩)))))
          · exact .inr (.inr (.inr (.inr (.inr (.inr ⟨c0, rfl, rfl, hs⟩)))))
        · exact .inr (.inr (.inr (.inr (.inl ⟨c0, rfl, rfl⟩))))
      · exact .inr (.inr (.inr (.inl ⟨c0, rfl⟩)))
  clear t1 t2 r4
  rcases hcases with ⟨c0, e0, nx⟩ | ⟨c0, e0, nx⟩ | ⟨c0, e0, nx, ny⟩ | ⟨c0, nx⟩ | ⟨c0, nx, ny⟩ | ⟨c0, nx, ny, sv0, c1⟩ | ⟨c0, nx, ny, sv0⟩
  · have e1 : (((x : Nat) : Int) = ((y : Nat) : Int)) = True := eq_true (by rw [e0])
    have c0' : (C = 0) = True := eq_true c0
    rw [nx] at fxx
    have ny : isN y = false := by rw [e0]; exact nx
    have sv0 : ¬ sv x < sv y := by rw [e0]; omega
    rw [ny] at fyy
    rw [nx, ny] at fl_
    simp (maxSteps := 2000000) -implicitDefEqProofs [Try.f6, px_skip, px_label, px_region, px_draw, qx_seq, qx_cond, px_block, px_loop, px_scope, px_exit, px_ret, seqK_normal, seqK_exit, seqK_ret, condK_true, condK_false, opsK_some, wK_true, wK_false, itK_some, aops_nil, aops_cons, lK_some, aK_some, hK_some, dwK_true, dwK_false, diK_some, dK_light, dK_alloc, dK_heavy, adraw_nil, adraw_cons, aop, cls, light, lightS, binE, aeq, intBin, goInt, pl_int, pl_bool, pl_ptr, pl_slice, aload, isAggT, aeval, tput, awanted, List.range_succ, fin, aresults, aresult, List.replicate, heavy, acallOp, aenter, ble_d, beq_d, firstRegion, readNames, Nxt, isAnc, readsOk, objEq_some, ibne, ibeq, w, en11, en13, en25, en26, q1, q2, q3, q4, q5, cxy, cyx, neg3, r1, r2, r5, r6, fxx, fyy, fl_, e1, c0', sv0, e13, Try.underlying25, undef, sB6_9]
    generalize hl : loopω _ _ _ _ = rr
    obtain ⟨x86, hx⟩ := use1 hl (tl1 _ (by kernel_rfl) _ (by kernel_rfl))
    subst hx
    clear hl
    rcases Nat.eq_zero_or_pos ws.length with h0 | h0
    · have hb : bsTo ws ws.length = -1 := by rw [h0]; rfl
      rw [hb] at eb
      rw [h0] at e3 eb
      simp (maxSteps := 2000000) -implicitDefEqProofs [px_skip, px_label, px_region, px_draw, qx_seq, qx_cond, px_block, px_loop, px_scope, px_exit, px_ret, seqK_normal, seqK_exit, seqK_ret, condK_true, condK_false, opsK_some, wK_true, wK_false, itK_some, aops_nil, aops_cons, lK_some, aK_some, hK_some, dwK_true, dwK_false, diK_some, dK_light, dK_alloc, dK_heavy, adraw_nil, adraw_cons, aop, cls, light, lightS, binE, aeq, intBin, goInt, pl_int, pl_bool, pl_ptr, pl_slice, aload, isAggT, aeval, tput, awanted, List.range_succ, fin, aresults, aresult, List.replicate, heavy, acallOp, aenter, ble_d, beq_d, firstRegion, readNames, Nxt, isAnc, readsOk, objEq_some, ibeq, h0, en12, eb, en15, e3, Try.underlying25, Try.underlying28]
    · obtain ⟨q, hq⟩ : ∃ q : Nat, bsTo ws ws.length = (q : Int) := ⟨(bsTo ws ws.length).toNat, by have := (bs_best ws ws.length 0 h0).1; omega⟩
      have hqn : q < ws.length := by have := (bsTo_lt ws ws.length).2; omega
      rw [hq] at eb
      have h00 : ¬ ws.length = 0 := by omega
      have q0 : ¬ (q : Int) < 0 := by omega
      have qn : ¬ ws.length ≤ q := by omega
      have gz := ints_g (d := l) (i := 0) (by omega)
      rw [rank_first hR h0, hq] at gz
      have tl2 := fun F hF t => tot2F hq hqn hw hk l1.sl F hF t
      have tl3 := fun F hF t => tot3F (n := ws.length) rfl h0 hR hw hk hl3 hg3 F hF t
      simp (maxSteps := 2000000) -implicitDefEqProofs [px_skip, px_label, px_region, px_draw, qx_seq, qx_cond, px_block, px_loop, px_scope, px_exit, px_ret, seqK_normal, seqK_exit, seqK_ret, condK_true, condK_false, opsK_some, wK_true, wK_false, itK_some, aops_nil, aops_cons, lK_some, aK_some, hK_some, dwK_true, dwK_false, diK_some, dK_light, dK_alloc, dK_heavy, adraw_nil, adraw_cons, aop, cls, light, lightS, binE, aeq, intBin, goInt, pl_int, pl_bool, pl_ptr, pl_slice, aload, isAggT, aeval, tput, awanted, List.range_succ, fin, aresults, aresult, List.replicate, heavy, acallOp, aenter, ble_d, beq_d, firstRegion, readNames, Nxt, isAnc, readsOk, objEq_some, ibeq, ibne, h00, q0, qn, en12, eb, Try.underlying25, Try.underlying28, sB6_21]
      generalize hl : loopω _ _ _ _ = rr
      obtain ⟨x147, hx⟩ := use1 hl (tl2 _ (by kernel_rfl) _ (by kernel_rfl))
      subst hx
      clear hl
      simp (maxSteps := 2000000) -implicitDefEqProofs [px_skip, px_label, px_region, px_draw, qx_seq, qx_cond, px_block, px_loop, px_scope, px_exit, px_ret, seqK_normal, seqK_exit, seqK_ret, condK_true, condK_false, opsK_some, wK_true, wK_false, itK_some, aops_nil, aops_cons, lK_some, aK_some, hK_some, dwK_true, dwK_false, diK_some, dK_light, dK_alloc, dK_heavy, adraw_nil, adraw_cons, aop, cls, light, lightS, binE, aeq, intBin, goInt, pl_int, pl_bool, pl_ptr, pl_slice, aload, isAggT, aeval, tput, awanted, List.range_succ, fin, aresults, aresult, List.replicate, heavy, acallOp, aenter, ble_d, beq_d, firstRegion, readNames, Nxt, isAnc, readsOk, objEq_some, ibeq, ibne, h0, en15, e3, aindexAddr, sz3, hg3, gz, Try.underlying25, Try.underlying28, sB6_31]
      generalize hl : loopω _ _ _ _ = rr
      obtain ⟨x1, x2, x3, x4, hx⟩ := use4 hl (tl3 _ (by kernel_rfl) _ (by kernel_rfl))
      subst hx
      clear hl
      simp (maxSteps := 2000000) -implicitDefEqProofs [px_skip, px_label, px_region, px_draw, qx_seq, qx_cond, px_block, px_loop, px_scope, px_exit, px_ret, seqK_normal, seqK_exit, seqK_ret, condK_true, condK_false, opsK_some, wK_true, wK_false, itK_some, aops_nil, aops_cons, lK_some, aK_some, hK_some, dwK_true, dwK_false, diK_some, dK_light, dK_alloc, dK_heavy, adraw_nil, adraw_cons, aop, cls, light, lightS, binE, aeq, intBin, goInt, pl_int, pl_bool, pl_ptr, pl_slice, aload, isAggT, aeval, tput, awanted, List.range_succ, fin, aresults, aresult, List.replicate, heavy, acallOp, aenter, ble_d, beq_d, firstRegion, readNames, Nxt, isAnc, readsOk, objEq_some]
  · have e1 : (((x : Nat) : Int) = ((y : Nat) : Int)) = True := eq_true (by rw [e0])
    have c0' : (C = 0) = True := eq_true c0
    rw [nx] at fxx
    simp (maxSteps := 2000000) -implicitDefEqProofs [Try.f6, px_skip, px_label, px_region, px_draw, qx_seq, qx_cond, px_block, px_loop, px_scope, px_exit, px_ret, seqK_normal, seqK_exit, seqK_ret, condK_true, condK_false, opsK_some, wK_true, wK_false, itK_some, aops_nil, aops_cons, lK_some, aK_some, hK_some, dwK_true, dwK_false, diK_some, dK_light, dK_alloc, dK_heavy, adraw_nil, adraw_cons, aop, cls, light, lightS, binE, aeq, intBin, goInt, pl_int, pl_bool, pl_ptr, pl_slice, aload, isAggT, aeval, tput, awanted, List.range_succ, fin, aresults, aresult, List.replicate, heavy, acallOp, aenter, ble_d, beq_d, firstRegion, readNames, Nxt, isAnc, readsOk, objEq_some, ibne, ibeq, w, en11, en13, en25, en26, q1, q2, q3, q4, q5, cxy, cyx, neg3, r1, r2, r5, r6, fxx, fyy, fl_, e1, c0', e13, Try.underlying25, undef, sB6_9]
    generalize hl : loopω _ _ _ _ = rr
    obtain ⟨x86, hx⟩ := use1 hl (tl1 _ (by kernel_rfl) _ (by kernel_rfl))
    subst hx
    clear hl
    rcases Nat.eq_zero_or_pos ws.length with h0 | h0
    · have hb : bsTo ws ws.length = -1 := by rw [h0]; rfl
      rw [hb] at eb
      rw [h0] at e3 eb
      simp (maxSteps := 2000000) -implicitDefEqProofs [px_skip, px_label, px_region, px_draw, qx_seq, qx_cond, px_block, px_loop, px_scope, px_exit, px_ret, seqK_normal, seqK_exit, seqK_ret, condK_true, condK_false, opsK_some, wK_true, wK_false, itK_some, aops_nil, aops_cons, lK_some, aK_some, hK_some, dwK_true, dwK_false, diK_some, dK_light, dK_alloc, dK_heavy, adraw_nil, adraw_cons, aop, cls, light, lightS, binE, aeq, intBin, goInt, pl_int, pl_bool, pl_ptr, pl_slice, aload, isAggT, aeval, tput, awanted, List.range_succ, fin, aresults, aresult, List.replicate, heavy, acallOp, aenter, ble_d, beq_d, firstRegion, readNames, Nxt, isAnc, readsOk, objEq_some, ibeq, h0, en12, eb, en15, e3, Try.underlying25, Try.underlying28]
    · obtain ⟨q, hq⟩ : ∃ q : Nat, bsTo ws ws.length = (q : Int) := ⟨(bsTo ws ws.length).toNat, by have := (bs_best ws ws.length 0 h0).1; omega⟩
      have hqn : q < ws.length := by have := (bsTo_lt ws ws.length).2; omega
      rw [hq] at eb
      have h00 : ¬ ws.length = 0 := by omega
      have q0 : ¬ (q : Int) < 0 := by omega
      have qn : ¬ ws.length ≤ q := by omega
      have gz := ints_g (d := l) (i := 0) (by omega)
      rw [rank_first hR h0, hq] at gz
      have tl2 := fun F hF t => tot2F hq hqn hw hk l1.sl F hF t
      have tl3 := fun F hF t => tot3F (n := ws.length) rfl h0 hR hw hk hl3 hg3 F hF t
      simp (maxSteps := 2000000) -implicitDefEqProofs [px_skip, px_label, px_region, px_draw, qx_seq, qx_cond, px_block, px_loop, px_scope, px_exit, px_ret, seqK_normal, seqK_exit, seqK_ret, condK_true, condK_false, opsK_some, wK_true, wK_false, itK_some, aops_nil, aops_cons, lK_some, aK_some, hK_some, dwK_true, dwK_false, diK_some, dK_light, dK_alloc, dK_heavy, adraw_nil, adraw_cons, aop, cls, light, lightS, binE, aeq, intBin, goInt, pl_int, pl_bool, pl_ptr, pl_slice, aload, isAggT, aeval, tput, awanted, List.range_succ, fin, aresults, aresult, List.replicate, heavy, acallOp, aenter, ble_d, beq_d, firstRegion, readNames, Nxt, isAnc, readsOk, objEq_some, ibeq, ibne, h00, q0, qn, en12, eb, Try.underlying25, Try.underlying28, sB6_21]
      generalize hl : loopω _ _ _ _ = rr
      obtain ⟨x147, hx⟩ := use1 hl (tl2 _ (by kernel_rfl) _ (by kernel_rfl))
      subst hx
      clear hl
      simp (maxSteps := 2000000) -implicitDefEqProofs [px_skip, px_label, px_region, px_draw, qx_seq, qx_cond, px_block, px_loop, px_scope, px_exit, px_ret, seqK_normal, seqK_exit, seqK_ret, condK_true, condK_false, opsK_some, wK_true, wK_false, itK_some, aops_nil, aops_cons, lK_some, aK_some, hK_some, dwK_true, dwK_false, diK_some, dK_light, dK_alloc, dK_heavy, adraw_nil, adraw_cons, aop, cls, light, lightS, binE, aeq, intBin, goInt, pl_int, pl_bool, pl_ptr, pl_slice, aload, isAggT, aeval, tput, awanted, List.range_succ, fin, aresults, aresult, List.replicate, heavy, acallOp, aenter, ble_d, beq_d, firstRegion, readNames, Nxt, isAnc, readsOk, objEq_some, ibeq, ibne, h0, en15, e3, aindexAddr, sz3, hg3, gz, Try.underlying25, Try.underlying28, sB6_31]
      generalize hl : loopω _ _ _ _ = rr
      obtain ⟨x1, x2, x3, x4, hx⟩ := use4 hl (tl3 _ (by kernel_rfl) _ (by kernel_rfl))
      subst hx
      clear hl
      simp (maxSteps := 2000000) -implicitDefEqProofs [px_skip, px_label, px_region, px_draw, qx_seq, qx_cond, px_block, px_loop, px_scope, px_exit, px_ret, seqK_normal, seqK_exit, seqK_ret, condK_true, condK_false, opsK_some, wK_true, wK_false, itK_some, aops_nil, aops_cons, lK_some, aK_some, hK_some, dwK_true, dwK_false, diK_some, dK_light, dK_alloc, dK_heavy, adraw_nil, adraw_cons, aop, cls, light, lightS, binE, aeq, intBin, goInt, pl_int, pl_bool, pl_ptr, pl_slice, aload, isAggT, aeval, tput, awanted, List.range_succ, fin, aresults, aresult, List.replicate, heavy, acallOp, aenter, ble_d, beq_d, firstRegion, readNames, Nxt, isAnc, readsOk, objEq_some]
  · have c0' : (C = 0) = True := eq_true c0
    have e1 : ¬ ((x : Nat) : Int) = ((y : Nat) : Int) := by omega
    rw [nx] at fxx
    rw [ny] at fyy
    simp (maxSteps := 2000000) -implicitDefEqProofs [Try.f6, px_skip, px_label, px_region, px_draw, qx_seq, qx_cond, px_block, px_loop, px_scope, px_exit, px_ret, seqK_normal, seqK_exit, seqK_ret, condK_true, condK_false, opsK_some, wK_true, wK_false, itK_some, aops_nil, aops_cons, lK_some, aK_some, hK_some, dwK_true, dwK_false, diK_some, dK_light, dK_alloc, dK_heavy, adraw_nil, adraw_cons, aop, cls, light, lightS, binE, aeq, intBin, goInt, pl_int, pl_bool, pl_ptr, pl_slice, aload, isAggT, aeval, tput, awanted, List.range_succ, fin, aresults, aresult, List.replicate, heavy, acallOp, aenter, ble_d, beq_d, firstRegion, readNames, Nxt, isAnc, readsOk, objEq_some, ibne, ibeq, w, en11, en13, en25, en26, q1, q2, q3, q4, q5, cxy, cyx, neg3, r1, r2, r5, r6, fxx, fyy, fl_, e1, c0', e13, Try.underlying25, undef, sB6_9]
    generalize hl : loopω _ _ _ _ = rr
    obtain ⟨x86, hx⟩ := use1 hl (tl1 _ (by kernel_rfl) _ (by kernel_rfl))
    subst hx
    clear hl
    rcases Nat.eq_zero_or_pos ws.length with h0 | h0
    · have hb : bsTo ws ws.length = -1 := by rw [h0]; rfl
      rw [hb] at eb
      rw [h0] at e3 eb
      simp (maxSteps := 2000000) -implicitDefEqProofs [px_skip, px_label, px_region, px_draw, qx_seq, qx_cond, px_block, px_loop, px_scope, px_exit, px_ret, seqK_normal, seqK_exit, seqK_ret, condK_true, condK_false, opsK_some, wK_true, wK_false, itK_some, aops_nil, aops_cons, lK_some, aK_some, hK_some, dwK_true, dwK_false, diK_some, dK_light, dK_alloc, dK_heavy, adraw_nil, adraw_cons, aop, cls, light, lightS, binE, aeq, intBin, goInt, pl_int, pl_bool, pl_ptr, pl_slice, aload, isAggT, aeval, tput, awanted, List.range_succ, fin, aresults, aresult, List.replicate, heavy, acallOp, aenter, ble_d, beq_d, firstRegion, readNames, Nxt, isAnc, readsOk, objEq_some, ibeq, h0, en12, eb, en15, e3, Try.underlying25, Try.underlying28]
    · obtain ⟨q, hq⟩ : ∃ q : Nat, bsTo ws ws.length = (q : Int) := ⟨(bsTo ws ws.length).toNat, by have := (bs_best ws ws.length 0 h0).1; omega⟩
      have hqn : q < ws.length := by have := (bsTo_lt ws ws.length).2; omega
      rw [hq] at eb
      have h00 : ¬ ws.length = 0 := by omega
      have q0 : ¬ (q : Int) < 0 := by omega
      have qn : ¬ ws.length ≤ q := by omega
      have gz := ints_g (d := l) (i := 0) (by omega)
      rw [rank_first hR h0, hq] at gz
      have tl2 := fun F hF t => tot2F hq hqn hw hk l1.sl F hF t
      have tl3 := fun F hF t => tot3F (n := ws.length) rfl h0 hR hw hk hl3 hg3 F hF t
      simp (maxSteps := 2000000) -implicitDefEqProofs [px_skip, px_label, px_region, px_draw, qx_seq, qx_cond, px_block, px_loop, px_scope, px_exit, px_ret, seqK_normal, seqK_exit, seqK_ret, condK_true, condK_false, opsK_some, wK_true, wK_false, itK_some, aops_nil, aops_cons, lK_some, aK_some, hK_some, dwK_true, dwK_false, diK_some, dK_light, dK_alloc, dK_heavy, adraw_nil, adraw_cons, aop, cls, light, lightS, binE, aeq, intBin, goInt, pl_int, pl_bool, pl_ptr, pl_slice, aload, isAggT, aeval, tput, awanted, List.range_succ, fin, aresults, aresult, List.replicate, heavy, acallOp, aenter, ble_d, beq_d, firstRegion, readNames, Nxt, isAnc, readsOk, objEq_some, ibeq, ibne, h00, q0, qn, en12, eb, Try.underlying25, Try.underlying28, sB6_21]
      generalize hl : loopω _ _ _ _ = rr
      obtain ⟨x147, hx⟩ := use1 hl (tl2 _ (by kernel_rfl) _ (by kernel_rfl))
      subst hx
      clear hl
      simp (maxSteps := 2000000) -implicitDefEqProofs [px_skip, px_label, px_region, px_draw, qx_seq, qx_cond, px_block, px_loop, px_scope, px_exit, px_ret, seqK_normal, seqK_exit, seqK_ret, condK_true, condK_false, opsK_some, wK_true, wK_false, itK_some, aops_nil, aops_cons, lK_some, aK_some, hK_some, dwK_true, dwK_false, diK_some, dK_light, dK_alloc, dK_heavy, adraw_nil, adraw_cons, aop, cls, light, lightS, binE, aeq, intBin, goInt, pl_int, pl_bool, pl_ptr, pl_slice, aload, isAggT, aeval, tput, awanted, List.range_succ, fin, aresults, aresult, List.replicate, heavy, acallOp, aenter, ble_d, beq_d, firstRegion, readNames, Nxt, isAnc, readsOk, objEq_some, ibeq, ibne, h0, en15, e3, aindexAddr, sz3, hg3, gz, Try.underlying25, Try.underlying28, sB6_31]
      generalize hl : loopω _ _ _ _ = rr
      obtain ⟨x1, x2, x3, x4, hx⟩ := use4 hl (tl3 _ (by kernel_rfl) _ (by kernel_rfl))
      subst hx
      clear hl
      simp (maxSteps := 2000000) -implicitDefEqProofs [px_skip, px_label, px_region, px_draw, qx_seq, qx_cond, px_block, px_loop, px_scope, px_exit, px_ret, seqK_normal, seqK_exit, seqK_ret, condK_true, condK_false, opsK_some, wK_true, wK_false, itK_some, aops_nil, aops_cons, lK_some, aK_some, hK_some, dwK_true, dwK_false, diK_some, dK_light, dK_alloc, dK_heavy, adraw_nil, adraw_cons, aop, cls, light, lightS, binE, aeq, intBin, goInt, pl_int, pl_bool, pl_ptr, pl_slice, aload, isAggT, aeval, tput, awanted, List.range_succ, fin, aresults, aresult, List.replicate, heavy, acallOp, aenter, ble_d, beq_d, firstRegion, readNames, Nxt, isAnc, readsOk, objEq_some]
  · rw [nx] at fxx
    simp (maxSteps := 2000000) -implicitDefEqProofs [Try.f6, px_skip, px_label, px_region, px_draw, qx_seq, qx_cond, px_block, px_loop, px_scope, px_exit, px_ret, seqK_normal, seqK_exit, seqK_ret, condK_true, condK_false, opsK_some, wK_true, wK_false, itK_some, aops_nil, aops_cons, lK_some, aK_some, hK_some, dwK_true, dwK_false, diK_some, dK_light, dK_alloc, dK_heavy, adraw_nil, adraw_cons, aop, cls, light, lightS, binE, aeq, intBin, goInt, pl_int, pl_bool, pl_ptr, pl_slice, aload, isAggT, aeval, tput, awanted, List.range_succ, fin, aresults, aresult, List.replicate, heavy, acallOp, aenter, ble_d, beq_d, firstRegion, readNames, Nxt, isAnc, readsOk, objEq_some, ibne, ibeq, w, en11, en13, en25, en26, q1, q2, q3, q4, q5, cxy, cyx, neg3, r1, r2, r5, r6, fxx, fyy, fl_, c0, e13, Try.underlying25, undef, sB6_9]
    generalize hl : loopω _ _ _ _ = rr
    obtain ⟨x86, hx⟩ := use1 hl (tl1 _ (by kernel_rfl) _ (by kernel_rfl))
    subst hx
    clear hl
    rcases Nat.eq_zero_or_pos ws.length with h0 | h0
    · have hb : bsTo ws ws.length = -1 := by rw [h0]; rfl
      rw [hb] at eb
      rw [h0] at e3 eb
      simp (maxSteps := 2000000) -implicitDefEqProofs [px_skip, px_label, px_region, px_draw, qx_seq, qx_cond, px_block, px_loop, px_scope, px_exit, px_ret, seqK_normal, seqK_exit, seqK_ret, condK_true, condK_false, opsK_some, wK_true, wK_false, itK_some, aops_nil, aops_cons, lK_some, aK_some, hK_some, dwK_true, dwK_false, diK_some, dK_light, dK_alloc, dK_heavy, adraw_nil, adraw_cons, aop, cls, light, lightS, binE, aeq, intBin, goInt, pl_int, pl_bool, pl_ptr, pl_slice, aload, isAggT, aeval, tput, awanted, List.range_succ, fin, aresults, aresult, List.replicate, heavy, acallOp, aenter, ble_d, beq_d, firstRegion, readNames, Nxt, isAnc, readsOk, objEq_some, ibeq, h0, en12, eb, en15, e3, Try.underlying25, Try.underlying28]
    · obtain ⟨q, hq⟩ : ∃ q : Nat, bsTo ws ws.length = (q : Int) := ⟨(bsTo ws ws.length).toNat, by have := (bs_best ws ws.length 0 h0).1; omega⟩
      have hqn : q < ws.length := by have := (bsTo_lt ws ws.length).2; omega
      rw [hq] at eb
      have h00 : ¬ ws.length = 0 := by omega
      have q0 : ¬ (q : Int) < 0 := by omega
      have qn : ¬ ws.length ≤ q := by omega
      have gz := ints_g (d := l) (i := 0) (by omega)
      rw [rank_first hR h0, hq] at gz
      have tl2 := fun F hF t => tot2F hq hqn hw hk l1.sl F hF t
      have tl3 := fun F hF t => tot3F (n := ws.length) rfl h0 hR hw hk hl3 hg3 F hF t
      simp (maxSteps := 2000000) -implicitDefEqProofs [px_skip, px_label, px_region, px_draw, qx_seq, qx_cond, px_block, px_loop, px_scope, px_exit, px_ret, seqK_normal, seqK_exit, seqK_ret, condK_true, condK_false, opsK_some, wK_true, wK_false, itK_some, aops_nil, aops_cons, lK_some, aK_some, hK_some, dwK_true, dwK_false, diK_some, dK_light, dK_alloc, dK_heavy, adraw_nil, adraw_cons, aop, cls, light, lightS, binE, aeq, intBin, goInt, pl_int, pl_bool, pl_ptr, pl_slice, aload, isAggT, aeval, tput, awanted, List.range_succ, fin, aresults, aresult, List.replicate, heavy, acallOp, aenter, ble_d, beq_d, firstRegion, readNames, Nxt, isAnc, readsOk, objEq_some, ibeq, ibne, h00, q0, qn, en12, eb, Try.underlying25, Try.underlying28, sB6_21]
      generalize hl : loopω _ _ _ _ = rr
      obtain ⟨x147, hx⟩ := use1 hl (tl2 _ (by kernel_rfl) _ (by kernel_rfl))
      subst hx
      clear hl
      simp (maxSteps := 2000000) -implicitDefEqProofs [px_skip, px_label, px_region, px_draw, qx_seq, qx_cond, px_block, px_loop, px_scope, px_exit, px_ret, seqK_normal, seqK_exit, seqK_ret, condK_true, condK_false, opsK_some, wK_true, wK_false, itK_some, aops_nil, aops_cons, lK_some, aK_some, hK_some, dwK_true, dwK_false, diK_some, dK_light, dK_alloc, dK_heavy, adraw_nil, adraw_cons, aop, cls, light, lightS, binE, aeq, intBin, goInt, pl_int, pl_bool, pl_ptr, pl_slice, aload, isAggT, aeval, tput, awanted, List.range_succ, fin, aresults, aresult, List.replicate, heavy, acallOp, aenter, ble_d, beq_d, firstRegion, readNames, Nxt, isAnc, readsOk, objEq_some, ibeq, ibne, h0, en15, e3, aindexAddr, sz3, hg3, gz, Try.underlying25, Try.underlying28, sB6_31]
      generalize hl : loopω _ _ _ _ = rr
      obtain ⟨x1, x2, x3, x4, hx⟩ := use4 hl (tl3 _ (by kernel_rfl) _ (by kernel_rfl))
      subst hx
      clear hl
      simp (maxSteps := 2000000) -implicitDefEqProofs [px_skip, px_label, px_region, px_draw, qx_seq, qx_cond, px_block, px_loop, px_scope, px_exit, px_ret, seqK_normal, seqK_exit, seqK_ret, condK_true, condK_false, opsK_some, wK_true, wK_false, itK_some, aops_nil, aops_cons, lK_some, aK_some, hK_some, dwK_true, dwK_false, diK_some, dK_light, dK_alloc, dK_heavy, adraw_nil, adraw_cons, aop, cls, light, lightS, binE, aeq, intBin, goInt, pl_int, pl_bool, pl_ptr, pl_slice, aload, isAggT, aeval, tput, awanted, List.range_succ, fin, aresults, aresult, List.replicate, heavy, acallOp, aenter, ble_d, beq_d, firstRegion, readNames, Nxt, isAnc, readsOk, objEq_some]
  · rw [nx] at fxx
    rw [ny] at fyy
    simp (maxSteps := 2000000) -implicitDefEqProofs [Try.f6, px_skip, px_label, px_region, px_draw, qx_seq, qx_cond, px_block, px_loop, px_scope, px_exit, px_ret, seqK_normal, seqK_exit, seqK_ret, condK_true, condK_false, opsK_some, wK_true, wK_false, itK_some, aops_nil, aops_cons, lK_some, aK_some, hK_some, dwK_true, dwK_false, diK_some, dK_light, dK_alloc, dK_heavy, adraw_nil, adraw_cons, aop, cls, light, lightS, binE, aeq, intBin, goInt, pl_int, pl_bool, pl_ptr, pl_slice, aload, isAggT, aeval, tput, awanted, List.range_succ, fin, aresults, aresult, List.replicate, heavy, acallOp, aenter, ble_d, beq_d, firstRegion, readNames, Nxt, isAnc, readsOk, objEq_some, ibne, ibeq, w, en11, en13, en25, en26, q1, q2, q3, q4, q5, cxy, cyx, neg3, r1, r2, r5, r6, fxx, fyy, fl_, c0, e13, Try.underlying25, undef, sB6_9]
    generalize hl : loopω _ _ _ _ = rr
    obtain ⟨x86, hx⟩ := use1 hl (tl1 _ (by kernel_rfl) _ (by kernel_rfl))
    subst hx
    clear hl
    rcases Nat.eq_zero_or_pos ws.length with h0 | h0
    · have hb : bsTo ws ws.length = -1 := by rw [h0]; rfl
      rw [hb] at eb
      rw [h0] at e3 eb
      simp (maxSteps := 2000000) -implicitDefEqProofs [px_skip, px_label, px_region, px_draw, qx_seq, qx_cond, px_block, px_loop, px_scope, px_exit, px_ret, seqK_normal, seqK_exit, seqK_ret, condK_true, condK_false, opsK_some, wK_true, wK_false, itK_some, aops_nil, aops_cons, lK_some, aK_some, hK_some, dwK_true, dwK_false, diK_some, dK_light, dK_alloc, dK_heavy, adraw_nil, adraw_cons, aop, cls, light, lightS, binE, aeq, intBin, goInt, pl_int, pl_bool, pl_ptr, pl_slice, aload, isAggT, aeval, tput, awanted, List.range_succ, fin, aresults, aresult, List.replicate, heavy, acallOp, aenter, ble_d, beq_d, firstRegion, readNames, Nxt, isAnc, readsOk, objEq_some, ibeq, h0, en12, eb, en15, e3, Try.underlying25, Try.underlying28]
    · obtain ⟨q, hq⟩ : ∃ q : Nat, bsTo ws ws.length = (q : Int) := ⟨(bsTo ws ws.length).toNat, by have := (bs_best ws ws.length 0 h0).1; omega⟩
      have hqn : q < ws.length := by have := (bsTo_lt ws ws.length).2; omega
      rw [hq] at eb
      have h00 : ¬ ws.length = 0 := by omega
      have q0 : ¬ (q : Int) < 0 := by omega
      have qn : ¬ ws.length ≤ q := by omega
      have gz := ints_g (d := l) (i := 0) (by omega)
      rw [rank_first hR h0, hq] at gz
      have tl2 := fun F hF t => tot2F hq hqn hw hk l1.sl F hF t
      have tl3 := fun F hF t => tot3F (n := ws.length) rfl h0 hR hw hk hl3 hg3 F hF t
      simp (maxSteps := 2000000) -implicitDefEqProofs [px_skip, px_label, px_region, px_draw, qx_seq, qx_cond, px_block, px_loop, px_scope, px_exit, px_ret, seqK_normal, seqK_exit, seqK_ret, condK_true, condK_false, opsK_some, wK_true, wK_false, itK_some, aops_nil, aops_cons, lK_some, aK_some, hK_some, dwK_true, dwK_false, diK_some, dK_light, dK_alloc, dK_heavy, adraw_nil, adraw_cons, aop, cls, light, lightS, binE, aeq, intBin, goInt, pl_int, pl_bool, pl_ptr, pl_slice, aload, isAggT, aeval, tput, awanted, List.range_succ, fin, aresults, aresult, List.replicate, heavy, acallOp, aenter, ble_d, beq_d, firstRegion, readNames, Nxt, isAnc, readsOk, objEq_some, ibeq, ibne, h00, q0, qn, en12, eb, Try.underlying25, Try.underlying28, sB6_21]
      generalize hl : loopω _ _ _ _ = rr
      obtain ⟨x147, hx⟩ := use1 hl (tl2 _ (by kernel_rfl) _ (by kernel_rfl))
      subst hx
      clear hl
      simp (maxSteps := 2000000) -implicitDefEqProofs [px_skip, px_label, px_region, px_draw, qx_seq, qx_cond, px_block, px_loop, px_scope, px_exit, px_ret, seqK_normal, seqK_exit, seqK_ret, condK_true, condK_false, opsK_some, wK_true, wK_false, itK_some, aops_nil, aops_cons, lK_some, aK_some, hK_some, dwK_true, dwK_false, diK_some, dK_light, dK_alloc, dK_heavy, adraw_nil, adraw_cons, aop, cls, light, lightS, binE, aeq, intBin, goInt, pl_int, pl_bool, pl_ptr, pl_slice, aload, isAggT, aeval, tput, awanted, List.range_succ, fin, aresults, aresult, List.replicate, heavy, acallOp, aenter, ble_d, beq_d, firstRegion, readNames, Nxt, isAnc, readsOk, objEq_some, ibeq, ibne, h0, en15, e3, aindexAddr, sz3, hg3, gz, Try.underlying25, Try.underlying28, sB6_31]
      generalize hl : loopω _ _ _ _ = rr
      obtain ⟨x1, x2, x3, x4, hx⟩ := use4 hl (tl3 _ (by kernel_rfl) _ (by kernel_rfl))
      subst hx
      clear hl
      simp (maxSteps := 2000000) -implicitDefEqProofs [px_skip, px_label, px_region, px_draw, qx_seq, qx_cond, px_block, px_loop, px_scope, px_exit, px_ret, seqK_normal, seqK_exit, seqK_ret, condK_true, condK_false, opsK_some, wK_true, wK_false, itK_some, aops_nil, aops_cons, lK_some, aK_some, hK_some, dwK_true, dwK_false, diK_some, dK_light, dK_alloc, dK_heavy, adraw_nil, adraw_cons, aop, cls, light, lightS, binE, aeq, intBin, goInt, pl_int, pl_bool, pl_ptr, pl_slice, aload, isAggT, aeval, tput, awanted, List.range_succ, fin, aresults, aresult, List.replicate, heavy, acallOp, aenter, ble_d, beq_d, firstRegion, readNames, Nxt, isAnc, readsOk, objEq_some]
  · have c1' : (C = -1) = True := eq_true c1
    rw [nx] at fxx
    rw [ny] at fyy
    rw [nx, ny] at fl_
    simp (maxSteps := 2000000) -implicitDefEqProofs [Try.f6, px_skip, px_label, px_region, px_draw, qx_seq, qx_cond, px_block, px_loop, px_scope, px_exit, px_ret, seqK_normal, seqK_exit, seqK_ret, condK_true, condK_false, opsK_some, wK_true, wK_false, itK_some, aops_nil, aops_cons, lK_some, aK_some, hK_some, dwK_true, dwK_false, diK_some, dK_light, dK_alloc, dK_heavy, adraw_nil, adraw_cons, aop, cls, light, lightS, binE, aeq, intBin, goInt, pl_int, pl_bool, pl_ptr, pl_slice, aload, isAggT, aeval, tput, awanted, List.range_succ, fin, aresults, aresult, List.replicate, heavy, acallOp, aenter, ble_d, beq_d, firstRegion, readNames, Nxt, isAnc, readsOk, objEq_some, ibne, ibeq, w, en11, en13, en25, en26, q1, q2, q3, q4, q5, cxy, cyx, neg3, r1, r2, r5, r6, fxx, fyy, fl_, c0, sv0, c1', e13, Try.underlying25, undef, sB6_9]
    generalize hl : loopω _ _ _ _ = rr
    obtain ⟨x86, hx⟩ := use1 hl (tl1 _ (by kernel_rfl) _ (by kernel_rfl))
    subst hx
    clear hl
    rcases Nat.eq_zero_or_pos ws.length with h0 | h0
    · have hb : bsTo ws ws.length = -1 := by rw [h0]; rfl
      rw [hb] at eb
      rw [h0] at e3 eb
      simp (maxSteps := 2000000) -implicitDefEqProofs [px_skip, px_label, px_region, px_draw, qx_seq, qx_cond, px_block, px_loop, px_scope, px_exit, px_ret, seqK_normal, seqK_exit, seqK_ret, condK_true, condK_false, opsK_some, wK_true, wK_false, itK_some, aops_nil, aops_cons, lK_some, aK_some, hK_some, dwK_true, dwK_false, diK_some, dK_light, dK_alloc, dK_heavy, adraw_nil, adraw_cons, aop, cls, light, lightS, binE, aeq, intBin, goInt, pl_int, pl_bool, pl_ptr, pl_slice, aload, isAggT, aeval, tput, awanted, List.range_succ, fin, aresults, aresult, List.replicate, heavy, acallOp, aenter, ble_d, beq_d, firstRegion, readNames, Nxt, isAnc, readsOk, objEq_some, ibeq, h0, en12, eb, en15, e3, Try.underlying25, Try.underlying28]
    · obtain ⟨q, hq⟩ : ∃ q : Nat, bsTo ws ws.length = (q : Int) := ⟨(bsTo ws ws.length).toNat, by have := (bs_best ws ws.length 0 h0).1; omega⟩
      have hqn : q < ws.length := by have := (bsTo_lt ws ws.length).2; omega
      rw [hq] at eb
      have h00 : ¬ ws.length = 0 := by omega
      have q0 : ¬ (q : Int) < 0 := by omega
      have qn : ¬ ws.length ≤ q := by omega
      have gz := ints_g (d := l) (i := 0) (by omega)
      rw [rank_first hR h0, hq] at gz
      have tl2 := fun F hF t => tot2F hq hqn hw hk l1.sl F hF t
      have tl3 := fun F hF t => tot3F (n := ws.length) rfl h0 hR hw hk hl3 hg3 F hF t
      simp (maxSteps := 2000000) -implicitDefEqProofs [px_skip, px_label, px_region, px_draw, qx_seq, qx_cond, px_block, px_loop, px_scope, px_exit, px_ret, seqK_normal, seqK_exit, seqK_ret, condK_true, condK_false, opsK_some, wK_true, wK_false, itK_some, aops_nil, aops_cons, lK_some, aK_some, hK_some, dwK_true, dwK_false, diK_some, dK_light, dK_alloc, dK_heavy, adraw_nil, adraw_cons, aop, cls, light, lightS, binE, aeq, intBin, goInt, pl_int, pl_bool, pl_ptr, pl_slice, aload, isAggT, aeval, tput, awanted, List.range_succ, fin, aresults, aresult, List.replicate, heavy, acallOp, aenter, ble_d, beq_d, firstRegion, readNames, Nxt, isAnc, readsOk, objEq_some, ibeq, ibne, h00, q0, qn, en12, eb, Try.underlying25, Try.underlying28, sB6_21]
      generalize hl : loopω _ _ _ _ = rr
      obtain ⟨x147, hx⟩ := use1 hl (tl2 _ (by kernel_rfl) _ (by kernel_rfl))
      subst hx
      clear hl
      simp (maxSteps := 2000000) -implicitDefEqProofs [px_skip, px_label, px_region, px_draw, qx_seq, qx_cond, px_block, px_loop, px_scope, px_exit, px_ret, seqK_normal, seqK_exit, seqK_ret, condK_true, condK_false, opsK_some, wK_true, wK_false, itK_some, aops_nil, aops_cons, lK_some, aK_some, hK_some, dwK_true, dwK_false, diK_some, dK_light, dK_alloc, dK_heavy, adraw_nil, adraw_cons, aop, cls, light, lightS, binE, aeq, intBin, goInt, pl_int, pl_bool, pl_ptr, pl_slice, aload, isAggT, aeval, tput, awanted, List.range_succ, fin, aresults, aresult, List.replicate, heavy, acallOp, aenter, ble_d, beq_d, firstRegion, readNames, Nxt, isAnc, readsOk, objEq_some, ibeq, ibne, h0, en15, e3, aindexAddr, sz3, hg3, gz, Try.underlying25, Try.underlying28, sB6_31]
      generalize hl : loopω _ _ _ _ = rr
      obtain ⟨x1, x2, x3, x4, hx⟩ := use4 hl (tl3 _ (by kernel_rfl) _ (by kernel_rfl))
      subst hx
      clear hl
      simp (maxSteps := 2000000) -implicitDefEqProofs [px_skip, px_label, px_region, px_draw, qx_seq, qx_cond, px_block, px_loop, px_scope, px_exit, px_ret, seqK_normal, seqK_exit, seqK_ret, condK_true, condK_false, opsK_some, wK_true, wK_false, itK_some, aops_nil, aops_cons, lK_some, aK_some, hK_some, dwK_true, dwK_false, diK_some, dK_light, dK_alloc, dK_heavy, adraw_nil, adraw_cons, aop, cls, light, lightS, binE, aeq, intBin, goInt, pl_int, pl_bool, pl_ptr, pl_slice, aload, isAggT, aeval, tput, awanted, List.range_succ, fin, aresults, aresult, List.replicate, heavy, acallOp, aenter, ble_d, beq_d, firstRegion, readNames, Nxt, isAnc, readsOk, objEq_some]
  · rw [nx] at fxx
    rw [ny] at fyy
    rw [nx, ny] at fl_
    simp (maxSteps := 2000000) -implicitDefEqProofs [Try.f6, px_skip, px_label, px_region, px_draw, qx_seq, qx_cond, px_block, px_loop, px_scope, px_exit, px_ret, seqK_normal, seqK_exit, seqK_ret, condK_true, condK_false, opsK_some, wK_true, wK_false, itK_some, aops_nil, aops_cons, lK_some, aK_some, hK_some, dwK_true, dwK_false, diK_some, dK_light, dK_alloc, dK_heavy, adraw_nil, adraw_cons, aop, cls, light, lightS, binE, aeq, intBin, goInt, pl_int, pl_bool, pl_ptr, pl_slice, aload, isAggT, aeval, tput, awanted, List.range_succ, fin, aresults, aresult, List.replicate, heavy, acallOp, aenter, ble_d, beq_d, firstRegion, readNames, Nxt, isAnc, readsOk, objEq_some, ibne, ibeq, w, en11, en13, en25, en26, q1, q2, q3, q4, q5, cxy, cyx, neg3, r1, r2, r5, r6, fxx, fyy, fl_, c0, sv0, e13, Try.underlying25, undef, sB6_9]
    generalize hl : loopω _ _ _ _ = rr
    obtain ⟨x86, hx⟩ := use1 hl (tl1 _ (by kernel_rfl) _ (by kernel_rfl))
    subst hx
    clear hl
    rcases Nat.eq_zero_or_pos ws.length with h0 | h0
    · have hb : bsTo ws ws.length = -1 := by rw [h0]; rfl
      rw [hb] at eb
      rw [h0] at e3 eb
      simp (maxSteps := 2000000) -implicitDefEqProofs [px_skip, px_label, px_region, px_draw, qx_seq, qx_cond, px_block, px_loop, px_scope, px_exit, px_ret, seqK_normal, seqK_exit, seqK_ret, condK_true, condK_false, opsK_some, wK_true, wK_false, itK_some, aops_nil, aops_cons, lK_some, aK_some, hK_some, dwK_true, dwK_false, diK_some, dK_light, dK_alloc, dK_heavy, adraw_nil, adraw_cons, aop, cls, light, lightS, binE, aeq, intBin, goInt, pl_int, pl_bool, pl_ptr, pl_slice, aload, isAggT, aeval, tput, awanted, List.range_succ, fin, aresults, aresult, List.replicate, heavy, acallOp, aenter, ble_d, beq_d, firstRegion, readNames, Nxt, isAnc, readsOk, objEq_some, ibeq, h0, en12, eb, en15, e3, Try.underlying25, Try.underlying28]
    · obtain ⟨q, hq⟩ : ∃ q : Nat, bsTo ws ws.length = (q : Int) := ⟨(bsTo ws ws.length).toNat, by have := (bs_best ws ws.length 0 h0).1; omega⟩
      have hqn : q < ws.length := by have := (bsTo_lt ws ws.length).2; omega
      rw [hq] at eb
      have h00 : ¬ ws.length = 0 := by omega
      have q0 : ¬ (q : Int) < 0 := by omega
      have qn : ¬ ws.length ≤ q := by omega
      have gz := ints_g (d := l) (i := 0) (by omega)
      rw [rank_first hR h0, hq] at gz
      have tl2 := fun F hF t => tot2F hq hqn hw hk l1.sl F hF t
      have tl3 := fun F hF t => tot3F (n := ws.length) rfl h0 hR hw hk hl3 hg3 F hF t
      simp (maxSteps := 2000000) -implicitDefEqProofs [px_skip, px_label, px_region, px_draw, qx_seq, qx_cond, px_block, px_loop, px_scope, px_exit, px_ret, seqK_normal, seqK_exit, seqK_ret, condK_true, condK_false, opsK_some, wK_true, wK_false, itK_some, aops_nil, aops_cons, lK_some, aK_some, hK_some, dwK_true, dwK_false, diK_some, dK_light, dK_alloc, dK_heavy, adraw_nil, adraw_cons, aop, cls, light, lightS, binE, aeq, intBin, goInt, pl_int, pl_bool, pl_ptr, pl_slice, aload, isAggT, aeval, tput, awanted, List.range_succ, fin, aresults, aresult, List.replicate, heavy, acallOp, aenter, ble_d, beq_d, firstRegion, readNames, Nxt, isAnc, readsOk, objEq_some, ibeq, ibne, h00, q0, qn, en12, eb, Try.underlying25, Try.underlying28, sB6_21]
      generalize hl : loopω _ _ _ _ = rr
      obtain ⟨x147, hx⟩ := use1 hl (tl2 _ (by kernel_rfl) _ (by kernel_rfl))
      subst hx
      clear hl
      simp (maxSteps := 2000000) -implicitDefEqProofs [px_skip, px_label, px_region, px_draw, qx_seq, qx_cond, px_block, px_loop, px_scope, px_exit, px_ret, seqK_normal, seqK_exit, seqK_ret, condK_true, condK_false, opsK_some, wK_true, wK_false, itK_some, aops_nil, aops_cons, lK_some, aK_some, hK_some, dwK_true, dwK_false, diK_some, dK_light, dK_alloc, dK_heavy, adraw_nil, adraw_cons, aop, cls, light, lightS, binE, aeq, intBin, goInt, pl_int, pl_bool, pl_ptr, pl_slice, aload, isAggT, aeval, tput, awanted, List.range_succ, fin, aresults, aresult, List.replicate, heavy, acallOp, aenter, ble_d, beq_d, firstRegion, readNames, Nxt, isAnc, readsOk, objEq_some, ibeq, ibne, h0, en15, e3, aindexAddr, sz3, hg3, gz, Try.underlying25, Try.underlying28, sB6_31]
      generalize hl : loopω _ _ _ _ = rr
      obtain ⟨x1, x2, x3, x4, hx⟩ := use4 hl (tl3 _ (by kernel_rfl) _ (by kernel_rfl))
      subst hx
      clear hl
      simp (maxSteps := 2000000) -implicitDefEqProofs [px_skip, px_label, px_region, px_draw, qx_seq, qx_cond, px_block, px_loop, px_scope, px_exit, px_ret, seqK_normal, seqK_exit, seqK_ret, condK_true, condK_false, opsK_some, wK_true, wK_false, itK_some, aops_nil, aops_cons, lK_some, aK_some, hK_some, dwK_true, dwK_false, diK_some, dK_light, dK_alloc, dK_heavy, adraw_nil, adraw_cons, aop, cls, light, lightS, binE, aeq, intBin, goInt, pl_int, pl_bool, pl_ptr, pl_slice, aload, isAggT, aeval, tput, awanted, List.range_succ, fin, aresults, aresult, List.replicate, heavy, acallOp, aenter, ble_d, beq_d, firstRegion, readNames, Nxt, isAnc, readsOk, objEq_some]
theorem total_calls (W : World) {a0 : Int} (w0 : (Lit.int .u64 a0).wf = true) {a1 : Int} (w1 : (Lit.int .u64 a1).wf = true) {a2 : Option Addr} {len2 cap2 : Nat} {l2 : List Nat} (w2 : U64sAt W a2 len2 cap2 l2) (y2 : len2 * 8 ≤ 140737488351232) :
    Calls Try.prog 6 #[.int .u64 a0, .int .u64 a1, .slice a2 len2 cap2] W fun e W' => e = .returned (.bool true) ∧ Below W.heap.size W W' := by
  obtain ⟨n, hn, rfl⟩ := u64_of w0
  obtain ⟨k, hm, rfl⟩ := u64_of w1
  obtain ⟨h, σ, v, hr, hro, _, _, hv, hs, hu, _⟩ := arg_u64s (h := .empty) (σ := fun _ => ⟨0, 0, 0⟩) (Rep.none _ W (Nat.le_refl _) _) allRo_empty 32 w2
  have := u64s_len w2
  obtain ⟨h', e⟩ := total hn hm hs w2.1 (by omega)
  exact law_calls mix hro e rfl hr (.cons (VRep.plain_refl 8 rfl) (.cons (VRep.plain_refl 8 rfl) (.cons hv .nil)))
end Go.Proofs.Ythkefkpmgleolab.Bi
