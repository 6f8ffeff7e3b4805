/- The program's types, as the abstract machine sees them. -/
import Derived.Test.YtjggaanpodbmpaaAi27
import Derived.Test.YtjggaanpodbmpaaProg
import Derived.KernelRfl
namespace Go.Ai
open Go.Proofs
set_option linter.unusedVariables false
set_option linter.unusedSimpArgs false
theorem prog_ok : progOk Try.prog = true := by kernel_rfl
theorem ag3 : aggT Try.prog 3 = some false := by kernel_rfl
theorem sz3 : szOf Try.prog 3 = some 1 := by kernel_rfl
theorem ag4 : aggT Try.prog 4 = some false := by kernel_rfl
theorem sz4 : szOf Try.prog 4 = some 1 := by kernel_rfl
theorem ag5 : aggT Try.prog 5 = some false := by kernel_rfl
theorem sz5 : szOf Try.prog 5 = some 1 := by kernel_rfl
theorem ag9 : aggT Try.prog 9 = some false := by kernel_rfl
theorem sz9 : szOf Try.prog 9 = some 1 := by kernel_rfl
theorem ag22 : aggT Try.prog 22 = some false := by kernel_rfl
theorem sz22 : szOf Try.prog 22 = some 1 := by kernel_rfl
theorem ag24 : aggT Try.prog 24 = some true := by kernel_rfl
theorem sz24 : szOf Try.prog 24 = some 2 := by kernel_rfl
theorem ag27 : aggT Try.prog 27 = some false := by kernel_rfl
theorem sz27 : szOf Try.prog 27 = some 1 := by kernel_rfl
theorem ag29 : aggT Try.prog 29 = some true := by kernel_rfl
theorem sz29 : szOf Try.prog 29 = some 3 := by kernel_rfl
theorem ag30 : aggT Try.prog 30 = some false := by kernel_rfl
theorem sz30 : szOf Try.prog 30 = some 1 := by kernel_rfl
theorem ag38 : aggT Try.prog 38 = some false := by kernel_rfl
theorem sz38 : szOf Try.prog 38 = some 1 := by kernel_rfl
theorem ag60 : aggT Try.prog 60 = some true := by kernel_rfl
theorem sz60 : szOf Try.prog 60 = some 2 := by kernel_rfl
theorem ag87 : aggT Try.prog 87 = some false := by kernel_rfl
theorem sz87 : szOf Try.prog 87 = some 1 := by kernel_rfl
theorem ag90 : aggT Try.prog 90 = some true := by kernel_rfl
theorem sz90 : szOf Try.prog 90 = some 2 := by kernel_rfl
theorem ag108 : aggT Try.prog 108 = some false := by kernel_rfl
theorem sz108 : szOf Try.prog 108 = some 1 := by kernel_rfl
theorem ag122 : aggT Try.prog 122 = some false := by kernel_rfl
theorem sz122 : szOf Try.prog 122 = some 1 := by kernel_rfl
theorem ag123 : aggT Try.prog 123 = some false := by kernel_rfl
theorem sz123 : szOf Try.prog 123 = some 1 := by kernel_rfl
theorem ag125 : aggT Try.prog 125 = some true := by kernel_rfl
theorem sz125 : szOf Try.prog 125 = some 13 := by kernel_rfl
theorem ag127 : aggT Try.prog 127 = some false := by kernel_rfl
theorem sz127 : szOf Try.prog 127 = some 1 := by kernel_rfl
theorem ag129 : aggT Try.prog 129 = some true := by kernel_rfl
theorem sz129 : szOf Try.prog 129 = some 1 := by kernel_rfl
theorem ag135 : aggT Try.prog 135 = some false := by kernel_rfl
theorem sz135 : szOf Try.prog 135 = some 1 := by kernel_rfl
theorem ag141 : aggT Try.prog 141 = some false := by kernel_rfl
theorem sz141 : szOf Try.prog 141 = some 1 := by kernel_rfl
theorem ag149 : aggT Try.prog 149 = some false := by kernel_rfl
theorem sz149 : szOf Try.prog 149 = some 1 := by kernel_rfl
theorem ag151 : aggT Try.prog 151 = some false := by kernel_rfl
theorem sz151 : szOf Try.prog 151 = some 1 := by kernel_rfl
theorem ag152 : aggT Try.prog 152 = some false := by kernel_rfl
theorem sz152 : szOf Try.prog 152 = some 1 := by kernel_rfl
theorem ag153 : aggT Try.prog 153 = some false := by kernel_rfl
theorem sz153 : szOf Try.prog 153 = some 1 := by kernel_rfl
theorem u3 : Try.prog.underlying 3 = some (.int .i64) := by kernel_rfl
theorem zr3 : zeroA Try.prog 3 = some (.int .i64 0) := by kernel_rfl
theorem u4 : Try.prog.underlying 4 = some .bool := by kernel_rfl
theorem zr4 : zeroA Try.prog 4 = some (.bool false) := by kernel_rfl
theorem eb4 {a b : Bool} : binA Try.prog .eql 4 (.bool a) (.bool b) = some (.bool (a == b)) := by simp [binA, eqA, u4]
theorem nb4 {a b : Bool} : binA Try.prog .neq 4 (.bool a) (.bool b) = some (.bool !(a == b)) := by simp [binA, eqA, u4]
theorem u5 : Try.prog.underlying 5 = some (.int .u8) := by kernel_rfl
theorem zr5 : zeroA Try.prog 5 = some (.int .u8 0) := by kernel_rfl
theorem u9 : Try.prog.underlying 9 = some .string := by kernel_rfl
theorem zr9 : zeroA Try.prog 9 = some (.str ⟨#[]⟩) := by kernel_rfl
theorem u22 : Try.prog.underlying 22 = some (.slice 38) := by kernel_rfl
theorem zr22 : zeroA Try.prog 22 = some (.nilslice) := by kernel_rfl
theorem ln22 {h : AH} {n : Nat} {cs : List AV} : builtinA Try.prog h .len [22] [.lst n cs] = some (.int .i64 n, h) := ln_lst u22
theorem ln22n {h : AH} : builtinA Try.prog h .len [22] [.nilslice] = some (.int .i64 (0 : Nat), h) := ln_nil u22
theorem ln22s {h : AH} {id off n : Nat} {c : Cap} : builtinA Try.prog h .len [22] [.slice id off n c] = some (.int .i64 n, h) := ln_slice u22
theorem ln22e {h : AH} {id off n : Nat} : builtinA Try.prog h .len [22] [.empty id off n] = some (.int .i64 (0 : Nat), h) := by simp [builtinA, lenA, u22]
theorem ix22 {k : IntKind} {n i : Nat} {cs : List AV} (hi : i < n) : indexAddrA Try.prog 22 (.lst n cs) (.int k i) = some (.ipt cs i) := ix_lst u22 sz38 hi
theorem ix22s {k : IntKind} {id off n i : Nat} {c : Cap} (hi : i < n) : indexAddrA Try.prog 22 (.slice id off n c) (.int k i) = some (.ptr id (off + i)) := by simp only [indexAddrA, u22, sz38]; rw [decide_eq_true (by omega)]; simp
theorem ap22 : AppTy Try.prog 22 38 1 := ⟨by kernel_rfl, u22, by kernel_rfl, by kernel_rfl, by decide⟩
theorem bs0_22 {h : AH} : buildSliceA Try.prog h 22 0 [] = some (.slice h.n 0 0 (.exact 0), h.push (.cells [] false)) := by kernel_rfl
theorem bs1_22 {h : AH} {v : AV} (hv : v.box = some [v]) : buildSliceA Try.prog h 22 1 [(0, v)] = some (.slice h.n 0 1 (.exact 1), h.push (.cells [v] false)) := by
  have e : buildSliceA Try.prog h 22 1 [(0, v)] = (match fillA (fun i => some (i * 1, 1)) [.nilslice] [(0, v)] with | some cs => some (.slice h.n 0 1 (.exact 1), h.push (.cells cs false)) | none => none) := by kernel_rfl
  rw [e]; simp [fillA, hv, splice]
theorem bs1_22l {h : AH} {n : Nat} {cs : List AV} : buildSliceA Try.prog h 22 1 [(0, .lst n cs)] = some (.slice h.n 0 1 (.exact 1), h.push (.cells [.lst n cs] false)) := bs1_22 rfl
theorem bs1_22s {h : AH} {i o n : Nat} {c : Cap} : buildSliceA Try.prog h 22 1 [(0, .slice i o n c)] = some (.slice h.n 0 1 (.exact 1), h.push (.cells [.slice i o n c] false)) := bs1_22 rfl
theorem bs1_22n {h : AH}  : buildSliceA Try.prog h 22 1 [(0, .nilslice)] = some (.slice h.n 0 1 (.exact 1), h.push (.cells [.nilslice] false)) := bs1_22 rfl
theorem bs2_22 {h : AH} {v w : AV} (hv : v.box = some [v]) (hw : w.box = some [w]) : buildSliceA Try.prog h 22 2 [(0, v), (1, w)] = some (.slice h.n 0 2 (.exact 2), h.push (.cells [v, w] false)) := by
  have e : buildSliceA Try.prog h 22 2 [(0, v), (1, w)] = (match fillA (fun i => some (i * 1, 1)) [.nilslice, .nilslice] [(0, v), (1, w)] with | some cs => some (.slice h.n 0 2 (.exact 2), h.push (.cells cs false)) | none => none) := by kernel_rfl
  rw [e]; simp [fillA, hv, hw, splice]
theorem bs2_22l {h : AH} {n : Nat} {cs : List AV} {n' : Nat} {cs' : List AV} : buildSliceA Try.prog h 22 2 [(0, .lst n cs), (1, .lst n' cs')] = some (.slice h.n 0 2 (.exact 2), h.push (.cells [.lst n cs, .lst n' cs'] false)) := bs2_22 rfl rfl
theorem bs2_22s {h : AH} {i o n : Nat} {c : Cap} {i' o' n' : Nat} {c' : Cap} : buildSliceA Try.prog h 22 2 [(0, .slice i o n c), (1, .slice i' o' n' c')] = some (.slice h.n 0 2 (.exact 2), h.push (.cells [.slice i o n c, .slice i' o' n' c'] false)) := bs2_22 rfl rfl
theorem la24 {h : AH} {id off : Nat} : loadA Try.prog h 24 (.ptr id off) = (cellsAt h id).bind fun cs => (cut cs off 2).map .agg := ld_ptra ag24 sz24
theorem li24 {h : AH} {off : Nat} {cs : List AV} : loadA Try.prog h 24 (.ipt cs off) = (cut cs off 2).map .agg := by simp only [loadA, ag24, sz24]
theorem zr24 : zeroA Try.prog 24 = some (.agg [.int .i64 0, .nilslice]) := by kernel_rfl
theorem bd24 {ps : List (Nat × AV)} : buildA Try.prog 24 ps = (fillA (fun i => [(0, 1), (1, 1)][i]?) [.int .i64 0, .nilslice] ps).map .agg := by kernel_rfl
theorem fa24_0 {id off : Nat} : fieldAddrA Try.prog 24 (.ptr id off) 0 = some (.ptr id (off + 0)) := by kernel_rfl
theorem fi24_0 {cs : List AV} {off : Nat} : fieldAddrA Try.prog 24 (.ipt cs off) 0 = some (.ipt cs (off + 0)) := by kernel_rfl
theorem fb24_0 {cs : List AV} : fieldA Try.prog 24 (.agg cs) 0 = cs[0]? := by kernel_rfl
theorem fa24_1 {id off : Nat} : fieldAddrA Try.prog 24 (.ptr id off) 1 = some (.ptr id (off + 1)) := by kernel_rfl
theorem fi24_1 {cs : List AV} {off : Nat} : fieldAddrA Try.prog 24 (.ipt cs off) 1 = some (.ipt cs (off + 1)) := by kernel_rfl
theorem fb24_1 {cs : List AV} : fieldA Try.prog 24 (.agg cs) 1 = cs[1]? := by kernel_rfl
theorem u27 : Try.prog.underlying 27 = some (.slice 4) := by kernel_rfl
theorem zr27 : zeroA Try.prog 27 = some (.nilslice) := by kernel_rfl
theorem ln27 {h : AH} {n : Nat} {cs : List AV} : builtinA Try.prog h .len [27] [.lst n cs] = some (.int .i64 n, h) := ln_lst u27
theorem ln27n {h : AH} : builtinA Try.prog h .len [27] [.nilslice] = some (.int .i64 (0 : Nat), h) := ln_nil u27
theorem ln27s {h : AH} {id off n : Nat} {c : Cap} : builtinA Try.prog h .len [27] [.slice id off n c] = some (.int .i64 n, h) := ln_slice u27
theorem ln27e {h : AH} {id off n : Nat} : builtinA Try.prog h .len [27] [.empty id off n] = some (.int .i64 (0 : Nat), h) := by simp [builtinA, lenA, u27]
theorem ix27 {k : IntKind} {n i : Nat} {cs : List AV} (hi : i < n) : indexAddrA Try.prog 27 (.lst n cs) (.int k i) = some (.ipt cs i) := ix_lst u27 sz4 hi
theorem ix27s {k : IntKind} {id off n i : Nat} {c : Cap} (hi : i < n) : indexAddrA Try.prog 27 (.slice id off n c) (.int k i) = some (.ptr id (off + i)) := by simp only [indexAddrA, u27, sz4]; rw [decide_eq_true (by omega)]; simp
theorem ap27 : AppTy Try.prog 27 4 1 := ⟨by kernel_rfl, u27, by kernel_rfl, by kernel_rfl, by decide⟩
theorem bs0_27 {h : AH} : buildSliceA Try.prog h 27 0 [] = some (.slice h.n 0 0 (.exact 0), h.push (.cells [] false)) := by kernel_rfl
theorem bs1_27 {h : AH} {v : AV} (hv : v.box = some [v]) : buildSliceA Try.prog h 27 1 [(0, v)] = some (.slice h.n 0 1 (.exact 1), h.push (.cells [v] false)) := by
  have e : buildSliceA Try.prog h 27 1 [(0, v)] = (match fillA (fun i => some (i * 1, 1)) [.bool false] [(0, v)] with | some cs => some (.slice h.n 0 1 (.exact 1), h.push (.cells cs false)) | none => none) := by kernel_rfl
  rw [e]; simp [fillA, hv, splice]
theorem bs1_27b {h : AH} {b : Bool} : buildSliceA Try.prog h 27 1 [(0, .bool b)] = some (.slice h.n 0 1 (.exact 1), h.push (.cells [.bool b] false)) := bs1_27 rfl
theorem bs2_27 {h : AH} {v w : AV} (hv : v.box = some [v]) (hw : w.box = some [w]) : buildSliceA Try.prog h 27 2 [(0, v), (1, w)] = some (.slice h.n 0 2 (.exact 2), h.push (.cells [v, w] false)) := by
  have e : buildSliceA Try.prog h 27 2 [(0, v), (1, w)] = (match fillA (fun i => some (i * 1, 1)) [.bool false, .bool false] [(0, v), (1, w)] with | some cs => some (.slice h.n 0 2 (.exact 2), h.push (.cells cs false)) | none => none) := by kernel_rfl
  rw [e]; simp [fillA, hv, hw, splice]
theorem bs2_27b {h : AH} {b : Bool} {b' : Bool} : buildSliceA Try.prog h 27 2 [(0, .bool b), (1, .bool b')] = some (.slice h.n 0 2 (.exact 2), h.push (.cells [.bool b, .bool b'] false)) := bs2_27 rfl rfl
theorem la29 {h : AH} {id off : Nat} : loadA Try.prog h 29 (.ptr id off) = (cellsAt h id).bind fun cs => (cut cs off 3).map .agg := ld_ptra ag29 sz29
theorem li29 {h : AH} {off : Nat} {cs : List AV} : loadA Try.prog h 29 (.ipt cs off) = (cut cs off 3).map .agg := by simp only [loadA, ag29, sz29]
theorem zr29 : zeroA Try.prog 29 = some (.agg [.bool false, .nilslice, .nilslice]) := by kernel_rfl
theorem bd29 {ps : List (Nat × AV)} : buildA Try.prog 29 ps = (fillA (fun i => [(0, 1), (1, 1), (2, 1)][i]?) [.bool false, .nilslice, .nilslice] ps).map .agg := by kernel_rfl
theorem fa29_0 {id off : Nat} : fieldAddrA Try.prog 29 (.ptr id off) 0 = some (.ptr id (off + 0)) := by kernel_rfl
theorem fi29_0 {cs : List AV} {off : Nat} : fieldAddrA Try.prog 29 (.ipt cs off) 0 = some (.ipt cs (off + 0)) := by kernel_rfl
theorem fb29_0 {cs : List AV} : fieldA Try.prog 29 (.agg cs) 0 = cs[0]? := by kernel_rfl
theorem fa29_1 {id off : Nat} : fieldAddrA Try.prog 29 (.ptr id off) 1 = some (.ptr id (off + 1)) := by kernel_rfl
theorem fi29_1 {cs : List AV} {off : Nat} : fieldAddrA Try.prog 29 (.ipt cs off) 1 = some (.ipt cs (off + 1)) := by kernel_rfl
theorem fb29_1 {cs : List AV} : fieldA Try.prog 29 (.agg cs) 1 = cs[1]? := by kernel_rfl
theorem fa29_2 {id off : Nat} : fieldAddrA Try.prog 29 (.ptr id off) 2 = some (.ptr id (off + 2)) := by kernel_rfl
theorem fi29_2 {cs : List AV} {off : Nat} : fieldAddrA Try.prog 29 (.ipt cs off) 2 = some (.ipt cs (off + 2)) := by kernel_rfl
theorem fb29_2 {cs : List AV} : fieldA Try.prog 29 (.agg cs) 2 = cs[2]? := by kernel_rfl
theorem u30 : Try.prog.underlying 30 = some (.int .i64) := by kernel_rfl
theorem zr30 : zeroA Try.prog 30 = some (.int .i64 0) := by kernel_rfl
theorem u38 : Try.prog.underlying 38 = some (.slice 3) := by kernel_rfl
theorem zr38 : zeroA Try.prog 38 = some (.nilslice) := by kernel_rfl
theorem ln38 {h : AH} {n : Nat} {cs : List AV} : builtinA Try.prog h .len [38] [.lst n cs] = some (.int .i64 n, h) := ln_lst u38
theorem ln38n {h : AH} : builtinA Try.prog h .len [38] [.nilslice] = some (.int .i64 (0 : Nat), h) := ln_nil u38
theorem ln38s {h : AH} {id off n : Nat} {c : Cap} : builtinA Try.prog h .len [38] [.slice id off n c] = some (.int .i64 n, h) := ln_slice u38
theorem ln38e {h : AH} {id off n : Nat} : builtinA Try.prog h .len [38] [.empty id off n] = some (.int .i64 (0 : Nat), h) := by simp [builtinA, lenA, u38]
theorem ix38 {k : IntKind} {n i : Nat} {cs : List AV} (hi : i < n) : indexAddrA Try.prog 38 (.lst n cs) (.int k i) = some (.ipt cs i) := ix_lst u38 sz3 hi
theorem ix38s {k : IntKind} {id off n i : Nat} {c : Cap} (hi : i < n) : indexAddrA Try.prog 38 (.slice id off n c) (.int k i) = some (.ptr id (off + i)) := by simp only [indexAddrA, u38, sz3]; rw [decide_eq_true (by omega)]; simp
theorem ap38 : AppTy Try.prog 38 3 1 := ⟨by kernel_rfl, u38, by kernel_rfl, by kernel_rfl, by decide⟩
theorem bs0_38 {h : AH} : buildSliceA Try.prog h 38 0 [] = some (.slice h.n 0 0 (.exact 0), h.push (.cells [] false)) := by kernel_rfl
theorem bs1_38 {h : AH} {v : AV} (hv : v.box = some [v]) : buildSliceA Try.prog h 38 1 [(0, v)] = some (.slice h.n 0 1 (.exact 1), h.push (.cells [v] false)) := by
  have e : buildSliceA Try.prog h 38 1 [(0, v)] = (match fillA (fun i => some (i * 1, 1)) [.int .i64 0] [(0, v)] with | some cs => some (.slice h.n 0 1 (.exact 1), h.push (.cells cs false)) | none => none) := by kernel_rfl
  rw [e]; simp [fillA, hv, splice]
theorem bs1_38i {h : AH} {k : IntKind} {x : Int} : buildSliceA Try.prog h 38 1 [(0, .int k x)] = some (.slice h.n 0 1 (.exact 1), h.push (.cells [.int k x] false)) := bs1_38 rfl
theorem bs2_38 {h : AH} {v w : AV} (hv : v.box = some [v]) (hw : w.box = some [w]) : buildSliceA Try.prog h 38 2 [(0, v), (1, w)] = some (.slice h.n 0 2 (.exact 2), h.push (.cells [v, w] false)) := by
  have e : buildSliceA Try.prog h 38 2 [(0, v), (1, w)] = (match fillA (fun i => some (i * 1, 1)) [.int .i64 0, .int .i64 0] [(0, v), (1, w)] with | some cs => some (.slice h.n 0 2 (.exact 2), h.push (.cells cs false)) | none => none) := by kernel_rfl
  rw [e]; simp [fillA, hv, hw, splice]
theorem bs2_38i {h : AH} {k : IntKind} {x : Int} {k' : IntKind} {x' : Int} : buildSliceA Try.prog h 38 2 [(0, .int k x), (1, .int k' x')] = some (.slice h.n 0 2 (.exact 2), h.push (.cells [.int k x, .int k' x'] false)) := bs2_38 rfl rfl
theorem la60 {h : AH} {id off : Nat} : loadA Try.prog h 60 (.ptr id off) = (cellsAt h id).bind fun cs => (cut cs off 2).map .agg := ld_ptra ag60 sz60
theorem li60 {h : AH} {off : Nat} {cs : List AV} : loadA Try.prog h 60 (.ipt cs off) = (cut cs off 2).map .agg := by simp only [loadA, ag60, sz60]
theorem zr60 : zeroA Try.prog 60 = some (.agg [.nilslice, .int .i64 0]) := by kernel_rfl
theorem bd60 {ps : List (Nat × AV)} : buildA Try.prog 60 ps = (fillA (fun i => [(0, 1), (1, 1)][i]?) [.nilslice, .int .i64 0] ps).map .agg := by kernel_rfl
theorem fa60_0 {id off : Nat} : fieldAddrA Try.prog 60 (.ptr id off) 0 = some (.ptr id (off + 0)) := by kernel_rfl
theorem fi60_0 {cs : List AV} {off : Nat} : fieldAddrA Try.prog 60 (.ipt cs off) 0 = some (.ipt cs (off + 0)) := by kernel_rfl
theorem fb60_0 {cs : List AV} : fieldA Try.prog 60 (.agg cs) 0 = cs[0]? := by kernel_rfl
theorem fa60_1 {id off : Nat} : fieldAddrA Try.prog 60 (.ptr id off) 1 = some (.ptr id (off + 1)) := by kernel_rfl
theorem fi60_1 {cs : List AV} {off : Nat} : fieldAddrA Try.prog 60 (.ipt cs off) 1 = some (.ipt cs (off + 1)) := by kernel_rfl
theorem fb60_1 {cs : List AV} : fieldA Try.prog 60 (.agg cs) 1 = cs[1]? := by kernel_rfl
theorem u87 : Try.prog.underlying 87 = some (.slice 90) := by kernel_rfl
theorem zr87 : zeroA Try.prog 87 = some (.nilslice) := by kernel_rfl
theorem ln87 {h : AH} {n : Nat} {cs : List AV} : builtinA Try.prog h .len [87] [.lst n cs] = some (.int .i64 n, h) := ln_lst u87
theorem ln87n {h : AH} : builtinA Try.prog h .len [87] [.nilslice] = some (.int .i64 (0 : Nat), h) := ln_nil u87
theorem ln87s {h : AH} {id off n : Nat} {c : Cap} : builtinA Try.prog h .len [87] [.slice id off n c] = some (.int .i64 n, h) := ln_slice u87
theorem ln87e {h : AH} {id off n : Nat} : builtinA Try.prog h .len [87] [.empty id off n] = some (.int .i64 (0 : Nat), h) := by simp [builtinA, lenA, u87]
theorem ix87 {k : IntKind} {n i : Nat} {cs : List AV} (hi : i < n) : indexAddrA Try.prog 87 (.lst n cs) (.int k i) = some (.ipt cs (i * 2)) := ix_lstz u87 sz90 hi
theorem ix87s {k : IntKind} {id off n i : Nat} {c : Cap} (hi : i < n) : indexAddrA Try.prog 87 (.slice id off n c) (.int k i) = some (.ptr id (off + i * 2)) := by simp only [indexAddrA, u87, sz90]; rw [decide_eq_true (by omega)]; simp
theorem ap87 : AppTy Try.prog 87 90 2 := ⟨by kernel_rfl, u87, by kernel_rfl, by kernel_rfl, by decide⟩
theorem bs0_87 {h : AH} : buildSliceA Try.prog h 87 0 [] = some (.slice h.n 0 0 (.exact 0), h.push (.cells [] false)) := by kernel_rfl
theorem la90 {h : AH} {id off : Nat} : loadA Try.prog h 90 (.ptr id off) = (cellsAt h id).bind fun cs => (cut cs off 2).map .agg := ld_ptra ag90 sz90
theorem li90 {h : AH} {off : Nat} {cs : List AV} : loadA Try.prog h 90 (.ipt cs off) = (cut cs off 2).map .agg := by simp only [loadA, ag90, sz90]
theorem zr90 : zeroA Try.prog 90 = some (.agg [.int .i64 0, .int .i64 0]) := by kernel_rfl
theorem bd90 {ps : List (Nat × AV)} : buildA Try.prog 90 ps = (fillA (fun i => [(0, 1), (1, 1)][i]?) [.int .i64 0, .int .i64 0] ps).map .agg := by kernel_rfl
theorem fa90_0 {id off : Nat} : fieldAddrA Try.prog 90 (.ptr id off) 0 = some (.ptr id (off + 0)) := by kernel_rfl
theorem fi90_0 {cs : List AV} {off : Nat} : fieldAddrA Try.prog 90 (.ipt cs off) 0 = some (.ipt cs (off + 0)) := by kernel_rfl
theorem fb90_0 {cs : List AV} : fieldA Try.prog 90 (.agg cs) 0 = cs[0]? := by kernel_rfl
theorem fa90_1 {id off : Nat} : fieldAddrA Try.prog 90 (.ptr id off) 1 = some (.ptr id (off + 1)) := by kernel_rfl
theorem fi90_1 {cs : List AV} {off : Nat} : fieldAddrA Try.prog 90 (.ipt cs off) 1 = some (.ipt cs (off + 1)) := by kernel_rfl
theorem fb90_1 {cs : List AV} : fieldA Try.prog 90 (.agg cs) 1 = cs[1]? := by kernel_rfl
theorem u108 : Try.prog.underlying 108 = some (.pointer 125) := by kernel_rfl
theorem zr108 : zeroA Try.prog 108 = some (.nilptr) := by kernel_rfl
theorem u122 : Try.prog.underlying 122 = some (.map 3 123) := by kernel_rfl
theorem zr122 : zeroA Try.prog 122 = some (.nilmap) := by kernel_rfl
theorem u123 : Try.prog.underlying 123 = some (.slice 127) := by kernel_rfl
theorem zr123 : zeroA Try.prog 123 = some (.nilslice) := by kernel_rfl
theorem ln123 {h : AH} {n : Nat} {cs : List AV} : builtinA Try.prog h .len [123] [.lst n cs] = some (.int .i64 n, h) := ln_lst u123
theorem ln123n {h : AH} : builtinA Try.prog h .len [123] [.nilslice] = some (.int .i64 (0 : Nat), h) := ln_nil u123
theorem ln123s {h : AH} {id off n : Nat} {c : Cap} : builtinA Try.prog h .len [123] [.slice id off n c] = some (.int .i64 n, h) := ln_slice u123
theorem ln123e {h : AH} {id off n : Nat} : builtinA Try.prog h .len [123] [.empty id off n] = some (.int .i64 (0 : Nat), h) := by simp [builtinA, lenA, u123]
theorem ix123 {k : IntKind} {n i : Nat} {cs : List AV} (hi : i < n) : indexAddrA Try.prog 123 (.lst n cs) (.int k i) = some (.ipt cs i) := ix_lst u123 sz127 hi
theorem ix123s {k : IntKind} {id off n i : Nat} {c : Cap} (hi : i < n) : indexAddrA Try.prog 123 (.slice id off n c) (.int k i) = some (.ptr id (off + i)) := by simp only [indexAddrA, u123, sz127]; rw [decide_eq_true (by omega)]; simp
theorem ap123 : AppTy Try.prog 123 127 1 := ⟨by kernel_rfl, u123, by kernel_rfl, by kernel_rfl, by decide⟩
theorem bs0_123 {h : AH} : buildSliceA Try.prog h 123 0 [] = some (.slice h.n 0 0 (.exact 0), h.push (.cells [] false)) := by kernel_rfl
theorem bs1_123 {h : AH} {v : AV} (hv : v.box = some [v]) : buildSliceA Try.prog h 123 1 [(0, v)] = some (.slice h.n 0 1 (.exact 1), h.push (.cells [v] false)) := by
  have e : buildSliceA Try.prog h 123 1 [(0, v)] = (match fillA (fun i => some (i * 1, 1)) [.nilptr] [(0, v)] with | some cs => some (.slice h.n 0 1 (.exact 1), h.push (.cells cs false)) | none => none) := by kernel_rfl
  rw [e]; simp [fillA, hv, splice]
theorem bs1_123p {h : AH} {i o : Nat} : buildSliceA Try.prog h 123 1 [(0, .ptr i o)] = some (.slice h.n 0 1 (.exact 1), h.push (.cells [.ptr i o] false)) := bs1_123 rfl
theorem bs1_123q {h : AH} {cs : List AV} {o : Nat} : buildSliceA Try.prog h 123 1 [(0, .ipt cs o)] = some (.slice h.n 0 1 (.exact 1), h.push (.cells [.ipt cs o] false)) := bs1_123 rfl
theorem bs1_123n {h : AH}  : buildSliceA Try.prog h 123 1 [(0, .nilptr)] = some (.slice h.n 0 1 (.exact 1), h.push (.cells [.nilptr] false)) := bs1_123 rfl
theorem bs2_123 {h : AH} {v w : AV} (hv : v.box = some [v]) (hw : w.box = some [w]) : buildSliceA Try.prog h 123 2 [(0, v), (1, w)] = some (.slice h.n 0 2 (.exact 2), h.push (.cells [v, w] false)) := by
  have e : buildSliceA Try.prog h 123 2 [(0, v), (1, w)] = (match fillA (fun i => some (i * 1, 1)) [.nilptr, .nilptr] [(0, v), (1, w)] with | some cs => some (.slice h.n 0 2 (.exact 2), h.push (.cells cs false)) | none => none) := by kernel_rfl
  rw [e]; simp [fillA, hv, hw, splice]
theorem bs2_123p {h : AH} {i o : Nat} {i' o' : Nat} : buildSliceA Try.prog h 123 2 [(0, .ptr i o), (1, .ptr i' o')] = some (.slice h.n 0 2 (.exact 2), h.push (.cells [.ptr i o, .ptr i' o'] false)) := bs2_123 rfl rfl
theorem bs2_123q {h : AH} {cs : List AV} {o : Nat} {cs' : List AV} {o' : Nat} : buildSliceA Try.prog h 123 2 [(0, .ipt cs o), (1, .ipt cs' o')] = some (.slice h.n 0 2 (.exact 2), h.push (.cells [.ipt cs o, .ipt cs' o'] false)) := bs2_123 rfl rfl
theorem la125 {h : AH} {id off : Nat} : loadA Try.prog h 125 (.ptr id off) = (cellsAt h id).bind fun cs => (cut cs off 13).map .agg := ld_ptra ag125 sz125
theorem li125 {h : AH} {off : Nat} {cs : List AV} : loadA Try.prog h 125 (.ipt cs off) = (cut cs off 13).map .agg := by simp only [loadA, ag125, sz125]
theorem zr125 : zeroA Try.prog 125 = some (.agg [.int .i64 0, .nilmap, .nilslice, .bool false, .nilslice, .nilslice, .nilslice, .nilslice, .nilslice, .int .i64 0, .nilslice, .int .i64 0, .nilslice]) := by kernel_rfl
theorem bd125 {ps : List (Nat × AV)} : buildA Try.prog 125 ps = (fillA (fun i => [(0, 1), (1, 1), (2, 1), (3, 1), (4, 1), (5, 1), (6, 1), (7, 1), (8, 1), (9, 1), (10, 1), (11, 1), (12, 1)][i]?) [.int .i64 0, .nilmap, .nilslice, .bool false, .nilslice, .nilslice, .nilslice, .nilslice, .nilslice, .int .i64 0, .nilslice, .int .i64 0, .nilslice] ps).map .agg := by kernel_rfl
theorem fa125_0 {id off : Nat} : fieldAddrA Try.prog 125 (.ptr id off) 0 = some (.ptr id (off + 0)) := by kernel_rfl
theorem fi125_0 {cs : List AV} {off : Nat} : fieldAddrA Try.prog 125 (.ipt cs off) 0 = some (.ipt cs (off + 0)) := by kernel_rfl
theorem fb125_0 {cs : List AV} : fieldA Try.prog 125 (.agg cs) 0 = cs[0]? := by kernel_rfl
theorem fa125_1 {id off : Nat} : fieldAddrA Try.prog 125 (.ptr id off) 1 = some (.ptr id (off + 1)) := by kernel_rfl
theorem fi125_1 {cs : List AV} {off : Nat} : fieldAddrA Try.prog 125 (.ipt cs off) 1 = some (.ipt cs (off + 1)) := by kernel_rfl
theorem fb125_1 {cs : List AV} : fieldA Try.prog 125 (.agg cs) 1 = cs[1]? := by kernel_rfl
theorem fa125_2 {id off : Nat} : fieldAddrA Try.prog 125 (.ptr id off) 2 = some (.ptr id (off + 2)) := by kernel_rfl
theorem fi125_2 {cs : List AV} {off : Nat} : fieldAddrA Try.prog 125 (.ipt cs off) 2 = some (.ipt cs (off + 2)) := by kernel_rfl
theorem fb125_2 {cs : List AV} : fieldA Try.prog 125 (.agg cs) 2 = cs[2]? := by kernel_rfl
theorem fa125_3 {id off : Nat} : fieldAddrA Try.prog 125 (.ptr id off) 3 = some (.ptr id (off + 3)) := by kernel_rfl
theorem fi125_3 {cs : List AV} {off : Nat} : fieldAddrA Try.prog 125 (.ipt cs off) 3 = some (.ipt cs (off + 3)) := by kernel_rfl
theorem fb125_3 {cs : List AV} : fieldA Try.prog 125 (.agg cs) 3 = cs[3]? := by kernel_rfl
theorem fa125_4 {id off : Nat} : fieldAddrA Try.prog 125 (.ptr id off) 4 = some (.ptr id (off + 4)) := by kernel_rfl
theorem fi125_4 {cs : List AV} {off : Nat} : fieldAddrA Try.prog 125 (.ipt cs off) 4 = some (.ipt cs (off + 4)) := by kernel_rfl
theorem fb125_4 {cs : List AV} : fieldA Try.prog 125 (.agg cs) 4 = cs[4]? := by kernel_rfl
theorem fa125_5 {id off : Nat} : fieldAddrA Try.prog 125 (.ptr id off) 5 = some (.ptr id (off + 5)) := by kernel_rfl
theorem fi125_5 {cs : List AV} {off : Nat} : fieldAddrA Try.prog 125 (.ipt cs off) 5 = some (.ipt cs (off + 5)) := by kernel_rfl
theorem fb125_5 {cs : List AV} : fieldA Try.prog 125 (.agg cs) 5 = cs[5]? := by kernel_rfl
theorem fa125_6 {id off : Nat} : fieldAddrA Try.prog 125 (.ptr id off) 6 = some (.ptr id (off + 6)) := by kernel_rfl
theorem fi125_6 {cs : List AV} {off : Nat} : fieldAddrA Try.prog 125 (.ipt cs off) 6 = some (.ipt cs (off + 6)) := by kernel_rfl
theorem fb125_6 {cs : List AV} : fieldA Try.prog 125 (.agg cs) 6 = cs[6]? := by kernel_rfl
theorem fa125_7 {id off : Nat} : fieldAddrA Try.prog 125 (.ptr id off) 7 = some (.ptr id (off + 7)) := by kernel_rfl
theorem fi125_7 {cs : List AV} {off : Nat} : fieldAddrA Try.prog 125 (.ipt cs off) 7 = some (.ipt cs (off + 7)) := by kernel_rfl
theorem fb125_7 {cs : List AV} : fieldA Try.prog 125 (.agg cs) 7 = cs[7]? := by kernel_rfl
theorem fa125_8 {id off : Nat} : fieldAddrA Try.prog 125 (.ptr id off) 8 = some (.ptr id (off + 8)) := by kernel_rfl
theorem fi125_8 {cs : List AV} {off : Nat} : fieldAddrA Try.prog 125 (.ipt cs off) 8 = some (.ipt cs (off + 8)) := by kernel_rfl
theorem fb125_8 {cs : List AV} : fieldA Try.prog 125 (.agg cs) 8 = cs[8]? := by kernel_rfl
theorem fa125_9 {id off : Nat} : fieldAddrA Try.prog 125 (.ptr id off) 9 = some (.ptr id (off + 9)) := by kernel_rfl
theorem fi125_9 {cs : List AV} {off : Nat} : fieldAddrA Try.prog 125 (.ipt cs off) 9 = some (.ipt cs (off + 9)) := by kernel_rfl
theorem fb125_9 {cs : List AV} : fieldA Try.prog 125 (.agg cs) 9 = cs[9]? := by kernel_rfl
theorem fa125_10 {id off : Nat} : fieldAddrA Try.prog 125 (.ptr id off) 10 = some (.ptr id (off + 10)) := by kernel_rfl
theorem fi125_10 {cs : List AV} {off : Nat} : fieldAddrA Try.prog 125 (.ipt cs off) 10 = some (.ipt cs (off + 10)) := by kernel_rfl
theorem fb125_10 {cs : List AV} : fieldA Try.prog 125 (.agg cs) 10 = cs[10]? := by kernel_rfl
theorem fa125_11 {id off : Nat} : fieldAddrA Try.prog 125 (.ptr id off) 11 = some (.ptr id (off + 11)) := by kernel_rfl
theorem fi125_11 {cs : List AV} {off : Nat} : fieldAddrA Try.prog 125 (.ipt cs off) 11 = some (.ipt cs (off + 11)) := by kernel_rfl
theorem fb125_11 {cs : List AV} : fieldA Try.prog 125 (.agg cs) 11 = cs[11]? := by kernel_rfl
theorem fa125_12 {id off : Nat} : fieldAddrA Try.prog 125 (.ptr id off) 12 = some (.ptr id (off + 12)) := by kernel_rfl
theorem fi125_12 {cs : List AV} {off : Nat} : fieldAddrA Try.prog 125 (.ipt cs off) 12 = some (.ipt cs (off + 12)) := by kernel_rfl
theorem fb125_12 {cs : List AV} : fieldA Try.prog 125 (.agg cs) 12 = cs[12]? := by kernel_rfl
theorem u127 : Try.prog.underlying 127 = some (.pointer 129) := by kernel_rfl
theorem zr127 : zeroA Try.prog 127 = some (.nilptr) := by kernel_rfl
theorem la129 {h : AH} {id off : Nat} : loadA Try.prog h 129 (.ptr id off) = (cellsAt h id).bind fun cs => (cut cs off 1).map .agg := ld_ptra ag129 sz129
theorem li129 {h : AH} {off : Nat} {cs : List AV} : loadA Try.prog h 129 (.ipt cs off) = (cut cs off 1).map .agg := by simp only [loadA, ag129, sz129]
theorem zr129 : zeroA Try.prog 129 = some (.agg [.nilslice]) := by kernel_rfl
theorem bd129 {ps : List (Nat × AV)} : buildA Try.prog 129 ps = (fillA (fun i => [(0, 1)][i]?) [.nilslice] ps).map .agg := by kernel_rfl
theorem fa129_0 {id off : Nat} : fieldAddrA Try.prog 129 (.ptr id off) 0 = some (.ptr id (off + 0)) := by kernel_rfl
theorem fi129_0 {cs : List AV} {off : Nat} : fieldAddrA Try.prog 129 (.ipt cs off) 0 = some (.ipt cs (off + 0)) := by kernel_rfl
theorem fb129_0 {cs : List AV} : fieldA Try.prog 129 (.agg cs) 0 = cs[0]? := by kernel_rfl
theorem u135 : Try.prog.underlying 135 = some (.int .u64) := by kernel_rfl
theorem zr135 : zeroA Try.prog 135 = some (.int .u64 0) := by kernel_rfl
theorem u141 : Try.prog.underlying 141 = some (.int .i64) := by kernel_rfl
theorem zr141 : zeroA Try.prog 141 = some (.int .i64 0) := by kernel_rfl
theorem u149 : Try.prog.underlying 149 = some (.int .u32) := by kernel_rfl
theorem zr149 : zeroA Try.prog 149 = some (.int .u32 0) := by kernel_rfl
theorem u151 : Try.prog.underlying 151 = some (.int .u64) := by kernel_rfl
theorem zr151 : zeroA Try.prog 151 = some (.int .u64 0) := by kernel_rfl
theorem u152 : Try.prog.underlying 152 = some (.map 3 4) := by kernel_rfl
theorem zr152 : zeroA Try.prog 152 = some (.nilmap) := by kernel_rfl
theorem u153 : Try.prog.underlying 153 = some (.int .u64) := by kernel_rfl
theorem zr153 : zeroA Try.prog 153 = some (.int .u64 0) := by kernel_rfl
attribute [go_sem] ag3 sz3 ag4 sz4 ag5 sz5 ag9 sz9 ag22 sz22 ag24 sz24 ag27 sz27 ag29 sz29 ag30 sz30 ag38 sz38 ag60 sz60 ag87 sz87 ag90 sz90 ag108 sz108 ag122 sz122 ag123 sz123 ag125 sz125 ag127 sz127 ag129 sz129 ag135 sz135 ag141 sz141 ag149 sz149 ag151 sz151 ag152 sz152 ag153 sz153 u3 zr3 u4 zr4 eb4 nb4 u5 zr5 u9 zr9 u22 zr22 ln22 ln22n ln22s ln22e ix22 ix22s bs0_22 bs1_22 bs1_22l bs1_22s bs1_22n bs2_22 bs2_22l bs2_22s la24 li24 zr24 bd24 fa24_0 fi24_0 fb24_0 fa24_1 fi24_1 fb24_1 u27 zr27 ln27 ln27n ln27s ln27e ix27 ix27s bs0_27 bs1_27 bs1_27b bs2_27 bs2_27b la29 li29 zr29 bd29 fa29_0 fi29_0 fb29_0 fa29_1 fi29_1 fb29_1 fa29_2 fi29_2 fb29_2 u30 zr30 u38 zr38 ln38 ln38n ln38s ln38e ix38 ix38s bs0_38 bs1_38 bs1_38i bs2_38 bs2_38i la60 li60 zr60 bd60 fa60_0 fi60_0 fb60_0 fa60_1 fi60_1 fb60_1 u87 zr87 ln87 ln87n ln87s ln87e ix87 ix87s bs0_87 la90 li90 zr90 bd90 fa90_0 fi90_0 fb90_0 fa90_1 fi90_1 fb90_1 u108 zr108 u122 zr122 u123 zr123 ln123 ln123n ln123s ln123e ix123 ix123s bs0_123 bs1_123 bs1_123p bs1_123q bs1_123n bs2_123 bs2_123p bs2_123q la125 li125 zr125 bd125 fa125_0 fi125_0 fb125_0 fa125_1 fi125_1 fb125_1 fa125_2 fi125_2 fb125_2 fa125_3 fi125_3 fb125_3 fa125_4 fi125_4 fb125_4 fa125_5 fi125_5 fb125_5 fa125_6 fi125_6 fb125_6 fa125_7 fi125_7 fb125_7 fa125_8 fi125_8 fb125_8 fa125_9 fi125_9 fb125_9 fa125_10 fi125_10 fb125_10 fa125_11 fi125_11 fb125_11 fa125_12 fi125_12 fb125_12 u127 zr127 la129 li129 zr129 bd129 fa129_0 fi129_0 fb129_0 u135 zr135 u141 zr141 u149 zr149 u151 zr151 u152 zr152 u153 zr153
end Go.Ai
