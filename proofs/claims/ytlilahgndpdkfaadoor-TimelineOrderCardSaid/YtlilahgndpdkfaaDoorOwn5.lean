/-
  Texts of this claim: TlAnn, TlFns0, TlFns1, TlFns2, TlFns3.
-/
import Derived.Test.YtlilahgndpdkfaaDoorProg
import Derived.Test.YtlilahgndpdkfaaDoorOwn3
set_option linter.all false
/-
  Printed by a program of this claim (gen.py, mk.py): what is said of each function beside its text.
-/
namespace Go.Proofs.YtlilahgndpdkfaaDoor
open Go Go.Abs
def an : Nat → Ann
  | 3 => { wr := [34, 34, 34], pub := [9, 15], frz := [71], loops := [⟨[74], [4, 9, 72, 73], [6], []⟩, ⟨[82], [13, 74, 80, 81], [6], [74]⟩] }
  | 4 => { pub := [5, 20, 23, 25], own := [(7, 8), (8, 8), (9, 1)], loops := [⟨[7, 40], [4, 5, 6, 8, 9, 38, 39], [7], [4, 5, 6, 8, 9]⟩, ⟨[8, 9, 54], [4, 5, 6, 7, 53], [8, 9], [4, 5, 6, 7]⟩, ⟨[112], [4, 6, 9, 13, 17, 110, 111], [2], [4, 9, 13, 17]⟩, ⟨[21, 144], [4, 9, 13, 17, 142, 143], [21], [9, 13, 17]⟩, ⟨[160], [9, 13, 17, 21, 158, 159], [2], [17, 21]⟩] }
  | 5 => { pub := [22], own := [(9, 8)], loops := [⟨[8], [5, 6, 7], [], [5, 6, 7]⟩, ⟨[9, 10, 11, 12], [5, 6, 7], [9], [5, 7]⟩, ⟨[18], [5, 7, 9], [], [7, 9]⟩, ⟨[117], [20, 115, 116], [4], [20]⟩] }
  | 6 => { wr := [37], dis := [50], loops := [⟨[7, 9], [1, 5, 6, 8], [7], [1, 5, 6, 8]⟩] }
  | 7 => { pub := [9, 14], pbm := [15, 17], own := [(12, 8), (62, 2)], loops := [⟨[12, 35], [8, 9, 10, 11, 33, 34], [6, 12], [8, 9]⟩, ⟨[49], [10, 12, 15, 35, 47, 48], [], [12, 15, 35]⟩] }
  | 8 => { pub := [7, 20], pbm := [11], own := [(9, 8), (18, 3)], loops := [⟨[9, 32], [6, 7, 8, 30, 31], [9], [6, 7, 8]⟩, ⟨[18, 69], [8, 15, 16, 17, 67, 68], [18], [15, 16, 17]⟩] }
  | 9 => { loops := [⟨[5], [0], [4], []⟩] }
  | 10 => { pur := [27] }
  | 11 => { wr := [9] }
  | 12 => { pbm := [8, 11], own := [(7, 8)], ownc := [(34, 2, 7)], pur := [30], loops := [⟨[7, 9, 10], [0, 8], [7], []⟩, ⟨[12], [0, 7, 8, 9, 10, 11], [], [7, 9, 10, 11]⟩] }
  | 14 => { pbm := [3], loops := [⟨[4], [0, 2, 3], [], [2, 3]⟩] }
  | 16 => { wr := [3, 8, 60], frz := [80], avo := [(55, [3]), (57, [3]), (74, [3]), (77, [3])], lr := [(53, 3), (69, 3)] }
  | 17 => { wr := [95], pub := [8, 14], loops := [⟨[7], [3, 23], [7], []⟩, ⟨[7, 49], [8, 9, 10, 12, 47, 48], [7], []⟩] }
  | 18 => { pub := [8, 11, 16, 18], own := [(14, 3)], loops := [⟨[6], [0, 3], [4, 5], [0, 3]⟩, ⟨[54], [0, 3, 52, 53], [4, 5], [0, 3]⟩, ⟨[67], [0, 3, 65, 66], [4, 5], [0, 3]⟩, ⟨[78], [0, 3, 77], [4, 5], [0, 3]⟩, ⟨[13], [0, 12, 78], [4, 5], [78]⟩, ⟨[14, 113], [0, 3, 111, 112], [14], []⟩, ⟨[14, 121], [0, 3, 15, 16, 113, 119, 120], [14], [113]⟩, ⟨[14, 145], [15, 18, 19, 20, 121, 144], [14], [121]⟩] }
  | 19 => { loops := [⟨[5], [0, 1], [4], []⟩] }
  | 20 => { loops := [⟨[5, 6], [0, 1], [5], []⟩] }
  | 21 => { pub := [6], loops := [⟨[9], [3, 7, 8], [4], []⟩] }
  | 24 => { loops := [⟨[6], [0, 1], [4, 5], []⟩] }
  | 25 => { pub := [4], loops := [⟨[3], [0], [2], [0]⟩, ⟨[6], [0], [2], [0]⟩, ⟨[7], [0], [2], []⟩] }
  | 27 => { own := [(7, 8)], loops := [⟨[7, 15], [13, 14], [7], []⟩] }
  | 30 => { pub := [5] }
  | 32 => { pub := [4], pbm := [3] }
  | 33 => { pub := [6, 10], loops := [⟨[23], [0, 21, 22], [4], [0]⟩, ⟨[39], [0, 8, 37, 38], [], [0, 8]⟩] }
  | 34 => { wr := [42], pub := [5, 7, 8], loops := [⟨[14], [3, 12, 13], [], [3]⟩, ⟨[22], [3, 4, 5, 14, 20, 21], [], [14]⟩, ⟨[], [3, 47], [], [3]⟩] }
  | 35 => { loops := [⟨[6, 7], [0, 1, 5], [], [5]⟩] }
  | 38 => { li := [11, 13] }
  | 39 => { loops := [⟨[8], [3, 6, 7], [2], [3]⟩] }
  | 42 => { pub := [9], loops := [⟨[7, 16], [1, 2, 14, 15], [7], []⟩, ⟨[12], [7, 8, 9, 10, 16], [12], [7, 8, 9, 10, 16]⟩] }
  | 43 => { loops := [⟨[8, 9], [0, 1, 2, 7], [], [0, 2, 7]⟩, ⟨[10], [0, 2, 7], [], [7]⟩] }
  | 45 => { pub := [3] }
  | 48 => { loops := [⟨[4], [1], [2], []⟩] }
  | 53 => { li := [12, 14] }
  | 59 => { pub := [4, 7], own := [(5, 4)], loops := [⟨[5, 6], [4], [5], []⟩] }
  | 64 => { li := [6] }
  | 65 => { pub := [3] }
  | 66 => { loops := [⟨[8], [0, 1, 7], [4], []⟩] }
  | 79 => { pub := [4], li := [15, 17, 21, 23] }
  | 80 => { pub := [6, 8], li := [30, 32, 35] }
  | 81 => { loops := [⟨[8], [0, 1, 7], [4], []⟩] }
  | 82 => { loops := [⟨[8], [0, 1, 7], [4], []⟩] }
  | 83 => { pub := [4], pbm := [5] }
  | _ => {}
def glob0 : List AV := [(i64 8000), (i64 11000), (i64 1800), (i64 3300), (i64 1800), (i64 3300), (i64 (-1000)), (i64 1000), (i64 (-1000)), (i64 1000), (i64 900), (i64 1700), (i64 2000), (i64 3200), (i64 2400), (i64 3400), (i64 2000), (i64 3000), (i64 4400), (i64 6200), (i64 2000), (i64 2900)]
def glob : Nat → Option (List AV)
  | 0 => some glob0
  | _ => none
noncomputable def T : Tabs := { P := Tryd.prog, glob := glob }
end Go.Proofs.YtlilahgndpdkfaaDoor

/-
  Printed by a program of this claim (gen.py, mk.py): functions.
-/
namespace Go.Proofs.YtlilahgndpdkfaaDoor
open Go Go.Abs
set_option maxRecDepth 100000
/-! ### 3 synoptic/synopticlaw16.TimelineAnswers -/
noncomputable def F3_L2 (C : CallEnv) (n0 : Nat) (t13 _t74 t80 t81 : AV) (t82 : AV) (S : Store) : Option ((List AV × Store) ⊕ (Ex × List AV × Store)) :=
  let n2 := S.length
  (binV .lss t82 t81).bind fun v42 =>
  condK v42
    ((indexAV 41 none t80 t82).bind fun v43 =>
    (loadV (some 41) v43 S).bind fun v44 =>
    (imms (cellsOf v44)).bind fun v45 => if v45.length = 41 then
      (loadV (some 41) (.ip v45 0) S).bind fun v46 =>
      (argVs [t13, v46]).bind fun v47 => (C 17 v47 S).bind fun v48 =>
      (extractV v48.1 0).bind fun v49 =>
      (extractV v48.1 1).bind fun v50 =>
      (loadV (some 41) (.ip v45 0) v48.2).bind fun v51 =>
      (argVs [t13, v51]).bind fun v52 => (C 18 v52 v48.2).bind fun v53 =>
      (extractV v53.1 0).bind fun v54 =>
      (extractV v53.1 1).bind fun v55 =>
      (binV .neq v50 v55).bind fun v56 =>
      (guardK v56 false (some (v49, v53.2)) (some (.und, v53.2))).bind fun g57 =>
      (guardK v56 false (some (v54, g57.2)) (some (.und, g57.2))).bind fun g58 =>
      (guardK v56 false ((argVs [g57.1, g58.1]).bind fun v60 => (C 19 v60 g58.2).bind fun v61 =>
      some (v61.1, v61.2)) (some (.und, g58.2))).bind fun g59 =>
      (guardK v56 false ((unV .not g59.1).bind fun v63 =>
      some (v63, g59.2)) (some (.und, g59.2))).bind fun g62 =>
      (pickV v56 (.bool true) g62.1).bind fun v64 =>
      condK v64
        (some (.inr (.ret, [(.bool false)], g62.2)))
        ((binV .add t82 (.int .i64 1)).bind fun v65 =>
        (nextS n0 n2 [v65] g62.2).bind fun r => some (.inl r))
      else none)
    (some (.inr (.exit 3, [.u], S)))

noncomputable def F3_L1 (C : CallEnv) (n0 : Nat) (t4 t9 t72 t73 : AV) (t74 : AV) (S : Store) : Option ((List AV × Store) ⊕ (Ex × List AV × Store)) :=
  let n1 := S.length
  (binV .lss t74 t73).bind fun v35 =>
  condK v35
    ((indexAV 1 none t72 t74).bind fun v36 =>
    (loadV none v36 S).bind fun v37 =>
    (loadV (some 41) t4 S).bind fun v38 =>
    (loadV (some 41) t9 S).bind fun v39 =>
    (bsliceV 41 [cellsOf v38, cellsOf v39]).bind fun v40 =>
    (lenV v40).bind fun v41 =>
    (iter (fun s => F3_L2 C n0 v37 t74 v40 v41 (s.1.getD 0 .u) s.2) ([(.int .i64 0)], S)).bind fun r66 => exK none
      (fun i67 => bif Nat.beq i67 3 then ((binV .add t74 (.int .i64 1)).bind fun v68 =>
      (nextS n0 n1 [v68] r66.2.2).bind fun r => some (.inl r)) else (bif Nat.beq i67 2 then ((binV .add t74 (.int .i64 1)).bind fun v69 =>
      (nextS n0 n1 [v69] r66.2.2).bind fun r => some (.inl r)) else (some (.inr (.exit i67, [(r66.2.1.getD 0 .u)], r66.2.2)))))
      (some (.inr (.ret, [(r66.2.1.getD 0 .u)], r66.2.2))) r66.1)
    (some (.inr (.exit 1, [.u], S)))

noncomputable def F3_J1 (C : CallEnv) (n0 : Nat) (t0 t4 t8 t9 t10 : AV) (S : Store) : Option (AV × Store) :=
  (freezeV t10 S).bind fun v32 =>
  (bsliceV 1 [cellsOf t0, cellsOf t8, cellsOf v32.1]).bind fun v33 =>
  (lenV v33).bind fun v34 =>
  (iter (fun s => F3_L1 C n0 t4 t9 v33 v34 (s.1.getD 0 .u) s.2) ([(.int .i64 0)], v32.2)).bind fun r70 => exK none
    (fun i71 => bif Nat.beq i71 1 then ((argVs []).bind fun v72 => (C 10 v72 r70.2.2).bind fun v73 =>
    finish false n0 [v73.1] v73.2) else (none))
    (finish false n0 [(r70.2.1.getD 0 .u)] r70.2.2) r70.1

noncomputable def F3 (C : CallEnv) (args : List AV) (S : Store) : Option (AV × Store) :=
  let n0 := S.length
  let t0 := args.getD 0 .u
  let t1 := args.getD 1 .u
  let t2 := args.getD 2 .u
  (imms (cellsOf t1)).bind fun v1 =>
  (argVs [t0, (.int .i64 20)]).bind fun v2 => (C 9 v2 S).bind fun v3 =>
  (unV .not v3.1).bind fun v4 =>
  condK v4
    ((argVs []).bind fun v5 => (C 10 v5 v3.2).bind fun v6 =>
    finish false n0 [v6.1] v6.2)
    ((argVs [t2]).bind fun v7 => (C 11 v7 v3.2).bind fun v8 =>
    (argVs [v8.1]).bind fun v9 => (C 13 v9 v8.2).bind fun v10 =>
    (argVs [v8.1, (.int .i64 10), v10.1]).bind fun v11 => (C 12 v11 v10.2).bind fun v12 =>
    (argVs [v8.1]).bind fun v13 => (C 14 v13 v12.2).bind fun v14 =>
    (imms (cellsOf v14.1)).bind fun v15 => if v15.length = 41 then
      (bsliceV 8 []).bind fun v16 =>
      (appendMV 8 v16 v12.1 v14.2).bind fun v17 =>
      (lenV v17.1).bind fun v18 =>
      (binV .gtr v18 (.int .i64 0)).bind fun v19 =>
      condK v19
        ((lenV v17.1).bind fun v20 =>
        (argVs [v8.1, v20]).bind fun v21 => (C 15 v21 v17.2).bind fun v22 =>
        (argVs [v8.1, (.int .i64 3)]).bind fun v23 => (C 15 v23 v22.2).bind fun v24 =>
        (binV .eql v24.1 (.int .i64 0)).bind fun v25 =>
        condK v25
          ((indexAV 8 none v17.1 v22.1).bind fun v26 =>
          (loadV (some 8) v26 v24.2).bind fun v27 =>
          (argVs [v8.1, v27]).bind fun v28 => (C 16 v28 v24.2).bind fun v29 =>
          (indexAV 8 none v17.1 v22.1).bind fun v30 =>
          (storeV n0 8 v30 v29.1 v29.2).bind fun S31 =>
          F3_J1 C n0 t0 (.ip v1 0) v12.1 (.ip v15 0) v17.1 S31)
          ((binV .eql v24.1 (.int .i64 1)).bind fun v74 =>
          condK v74
            ((indexAV 8 none v17.1 (.int .i64 0)).bind fun v75 =>
            (fieldAV 2 v75).bind fun v76 =>
            (loadV none v76 v24.2).bind fun v77 =>
            (indexAV 8 none v17.1 v22.1).bind fun v78 =>
            (fieldAV 2 v78).bind fun v79 =>
            (storeV n0 1 v79 v77 v24.2).bind fun S80 =>
            F3_J1 C n0 t0 (.ip v1 0) v12.1 (.ip v15 0) v17.1 S80)
            ((indexAV 8 none v17.1 v22.1).bind fun v81 =>
            (fieldAV 1 v81).bind fun v82 =>
            (storeV n0 1 v82 (.str [66, 82, 65, 86, 79]) v24.2).bind fun S83 =>
            F3_J1 C n0 t0 (.ip v1 0) v12.1 (.ip v15 0) v17.1 S83)))
        (F3_J1 C n0 t0 (.ip v1 0) v12.1 (.ip v15 0) v17.1 v17.2)
      else none)

theorem c3 {ov : Over} (h : ov 3 = none) (args : List AV) (S : Store) : (Prg.mk T an ov).call 3 args S = F3 (Prg.mk T an ov).call args S :=
  ((Prg.mk T an ov).call_eq 3 args S).trans ((Prg.step_none h).trans (by kernel_rfl))

/-! ### 7 synoptic/synopticlaw16.TimelineShifted -/
noncomputable def F7_J2 (_C : CallEnv) (n0 : Nat) (n2 : Nat) (t49 : AV) (S : Store) : Option ((List AV × Store) ⊕ (Ex × List AV × Store)) :=
  (binV .add t49 (.int .i64 1)).bind fun v53 =>
  (nextS n0 n2 [v53] S).bind fun r => some (.inl r)

noncomputable def F7_J1 (C : CallEnv) (n0 : Nat) (n2 : Nat) (t15 t17 t49 : AV) (S : Store) : Option ((List AV × Store) ⊕ (Ex × List AV × Store)) :=
  (fieldAV 7 t15).bind fun v45 =>
  (loadV none v45 S).bind fun v46 =>
  (ownV 2 v46 S).bind fun v47 =>
  (loadV (some 2) t17 v47.2).bind fun v48 =>
  (bsliceV 2 [cellsOf v48]).bind fun v49 =>
  (appendV 2 v47.1 v49 v47.2).bind fun v50 =>
  (fieldAV 7 t15).bind fun v51 =>
  (storeV n0 1 v51 v50.1 v50.2).bind fun S52 =>
  F7_J2 C n0 n2 t49 S52

noncomputable def F7_L2 (C : CallEnv) (n0 : Nat) (t10 _t12 t15 _t35 t47 t48 : AV) (t49 : AV) (S : Store) : Option ((List AV × Store) ⊕ (Ex × List AV × Store)) :=
  let n2 := S.length
  (binV .lss t49 t48).bind fun v32 =>
  condK v32
    ((indexAV 2 none t47 t49).bind fun v33 =>
    (loadV (some 2) v33 S).bind fun v34 =>
    (cells1 (cellsOf v34)).bind fun v35 => if v35.length = 2 then
      let S36 : Store := S ++ [.obj v35]
      (fieldAV 0 (.ptr S.length 0)).bind fun v37 =>
      (loadV none v37 S36).bind fun v38 =>
      (binV .eql v38 (.int .i64 1)).bind fun v39 =>
      condK v39
        ((fieldAV 1 (.ptr S.length 0)).bind fun v40 =>
        (loadV none v40 S36).bind fun v41 =>
        (binV .add v41 t10).bind fun v42 =>
        (fieldAV 1 (.ptr S.length 0)).bind fun v43 =>
        (storeV n0 1 v43 v42 S36).bind fun S44 =>
        F7_J1 C n0 n2 t15 (.ptr S.length 0) t49 S44)
        (F7_J1 C n0 n2 t15 (.ptr S.length 0) t49 S36)
      else none)
    (some (.inr (.exit 2, [], S)))

noncomputable def F7_L1 (C : CallEnv) (n0 : Nat) (_t8 _t9 t10 t11 t33 t34 : AV) (t12 t35 : AV) (S : Store) : Option ((List AV × Store) ⊕ (Ex × List AV × Store)) :=
  let n1 := S.length
  (binV .lss t35 t34).bind fun v15 =>
  condK v15
    ((indexAV 8 none t33 t35).bind fun v16 =>
    (loadV (some 8) v16 S).bind fun v17 =>
    (imms (cellsOf v17)).bind fun v18 => if v18.length = 8 then
      (loadV (some 8) (.ip v18 0) S).bind fun v19 =>
      (cells1 (cellsOf v19)).bind fun v20 => if v20.length = 8 then
        let S21 : Store := S ++ [.obj v20]
        (fieldAV 2 (.ptr S.length 0)).bind fun v22 =>
        (loadV none v22 S21).bind fun v23 =>
        (binV .add v23 t11).bind fun v24 =>
        (fieldAV 2 (.ptr S.length 0)).bind fun v25 =>
        (storeV n0 1 v25 v24 S21).bind fun S26 =>
        (fieldAV 7 (.ptr S.length 0)).bind fun v27 =>
        (storeV n0 1 v27 (.sl [] .full) S26).bind fun S28 =>
        (fieldAV 7 (.ip v18 0)).bind fun v29 =>
        (loadV none v29 S28).bind fun v30 =>
        (lenV v30).bind fun v31 =>
        (iter (fun s => F7_L2 C n0 t10 t12 (.ptr S.length 0) t35 v30 v31 (s.1.getD 0 .u) s.2) ([(.int .i64 0)], S28)).bind fun r54 => exK none
          (fun i55 => bif Nat.beq i55 2 then ((fieldAV 7 (.ptr S.length 0)).bind fun v56 =>
          (loadV none v56 r54.2.2).bind fun v57 =>
          (argVs [v57]).bind fun v58 => (C 25 v58 r54.2.2).bind fun v59 =>
          (binV .neq v59.1 (.int .i64 0)).bind fun v60 =>
          condK v60
            ((argVs []).bind fun v61 => (C 10 v61 v59.2).bind fun v62 =>
            some (.inr (.ret, [v62.1, t12], v62.2)))
            ((loadV (some 8) (.ptr S.length 0) v59.2).bind fun v63 =>
            (bsliceV 8 [cellsOf v63]).bind fun v64 =>
            (appendV 8 t12 v64 v59.2).bind fun v65 =>
            (ownV 8 v65.1 v65.2).bind fun v66 =>
            (binV .add t35 (.int .i64 1)).bind fun v67 =>
            (nextS n0 n1 [v66.1, v67] v66.2).bind fun r => some (.inl r))) else (bif Nat.beq i55 1 then ((binV .add t35 (.int .i64 1)).bind fun v68 =>
          (nextS n0 n1 [t12, v68] r54.2.2).bind fun r => some (.inl r)) else (some (.inr (.exit i55, [.u, t12], r54.2.2)))))
          (some (.inr (.ret, [.u, t12], r54.2.2))) r54.1
        else none
      else none)
    (some (.inr (.exit 0, [.u, t12], S)))

noncomputable def F7 (C : CallEnv) (args : List AV) (S : Store) : Option (AV × Store) :=
  let n0 := S.length
  let t0 := args.getD 0 .u
  let t1 := args.getD 1 .u
  let t2 := args.getD 2 .u
  (argVs [t0]).bind fun v1 => (C 11 v1 S).bind fun v2 =>
  (argVs [v2.1, (.int .i64 9), (.int .i64 14000000)]).bind fun v3 => (C 12 v3 v2.2).bind fun v4 =>
  (argVs [v2.1]).bind fun v5 => (C 14 v5 v4.2).bind fun v6 =>
  (imms (cellsOf v6.1)).bind fun v7 => if v7.length = 41 then
    (argVs [t1, (.int .i64 41)]).bind fun v8 => (C 22 v8 v6.2).bind fun v9 =>
    (binV .sub v9.1 (.int .i64 20)).bind fun v10 =>
    (argVs [t2, (.int .i64 100000)]).bind fun v11 => (C 22 v11 v9.2).bind fun v12 =>
    (ownV 8 (.sl [] .full) v12.2).bind fun v13 =>
    (lenV v4.1).bind fun v14 =>
    (iter (fun s => F7_L1 C n0 v4.1 (.ip v7 0) v10 v12.1 v4.1 v14 (s.1.getD 0 .u) (s.1.getD 1 .u) s.2) ([v13.1, (.int .i64 0)], v13.2)).bind fun r69 => exK none
      (fun i70 => bif Nat.beq i70 0 then ((loadV (some 41) (.ip v7 0) r69.2.2).bind fun v71 =>
      (argVs [v4.1, v71]).bind fun v72 => (C 17 v72 r69.2.2).bind fun v73 =>
      (extractV v73.1 0).bind fun v74 =>
      (extractV v73.1 1).bind fun v75 =>
      (loadV (some 41) (.ip v7 0) v73.2).bind fun v76 =>
      (argVs [(r69.2.1.getD 1 .u), v76]).bind fun v77 => (C 17 v77 v73.2).bind fun v78 =>
      (extractV v78.1 0).bind fun v79 =>
      (extractV v78.1 1).bind fun v80 =>
      (binV .eql v75 (.int .i64 0)).bind fun v81 =>
      (guardK v81 true (some (v80, v78.2)) (some (.und, v78.2))).bind fun g82 =>
      (guardK v81 true ((binV .eql g82.1 (.int .i64 0)).bind fun v84 =>
      some (v84, g82.2)) (some (.und, g82.2))).bind fun g83 =>
      (pickV v81 g83.1 (.bool false)).bind fun v85 =>
      (guardK v85 true (some (v74, g83.2)) (some (.und, g83.2))).bind fun g86 =>
      (guardK v85 true (some (v79, g86.2)) (some (.und, g86.2))).bind fun g87 =>
      (guardK v85 true ((argVs [g86.1, g87.1]).bind fun v89 => (C 19 v89 g87.2).bind fun v90 =>
      some (v90.1, v90.2)) (some (.und, g87.2))).bind fun g88 =>
      (pickV v85 g88.1 (.bool false)).bind fun v91 =>
      (guardK v91 true ((argVs []).bind fun v93 => (C 10 v93 g88.2).bind fun v94 =>
      some (v94.1, v94.2)) (some (.und, g88.2))).bind fun g92 =>
      (pickV v91 g92.1 (.bool false)).bind fun v95 =>
      finish false n0 [v95] g92.2) else (none))
      (finish false n0 [(r69.2.1.getD 0 .u)] r69.2.2) r69.1
    else none

theorem c7 {ov : Over} (h : ov 7 = none) (args : List AV) (S : Store) : (Prg.mk T an ov).call 7 args S = F7 (Prg.mk T an ov).call args S :=
  ((Prg.mk T an ov).call_eq 7 args S).trans ((Prg.step_none h).trans (by kernel_rfl))

/-! ### 11 synoptic/synoptickeep.New -/
noncomputable def F11 (_C : CallEnv) (args : List AV) (S : Store) : Option (AV × Store) :=
  let n0 := S.length
  let t0 := args.getD 0 .u
  (lenV t0).bind fun v1 =>
  (minmaxV false [v1, (.int .i64 2000)]).bind fun v2 =>
  (sliceV 1 t0 none (some v2) none).bind fun v3 =>
  (buildV [(.sl [] .full), (.int .i64 0)] [(0, 1, v3)]).bind fun v4 =>
  (cells1 (cellsOf v4)).bind fun v5 =>
  let S6 : Store := S ++ [.obj v5]
  finish false n0 [(.ptr S.length 0)] S6

theorem c11 {ov : Over} (h : ov 11 = none) (args : List AV) (S : Store) : (Prg.mk T an ov).call 11 args S = F11 (Prg.mk T an ov).call args S :=
  ((Prg.mk T an ov).call_eq 11 args S).trans ((Prg.step_none h).trans (by kernel_rfl))

/-! ### 15 (*synoptic/synoptickeep.Src).N -/
noncomputable def F15 (C : CallEnv) (args : List AV) (S : Store) : Option (AV × Store) :=
  let n0 := S.length
  let t0 := args.getD 0 .u
  let t1 := args.getD 1 .u
  (argVs [t0]).bind fun v1 => (C 31 v1 S).bind fun v2 =>
  (argVs [v2.1, t1]).bind fun v3 => (C 22 v3 v2.2).bind fun v4 =>
  finish false n0 [v4.1] v4.2

theorem c15 {ov : Over} (h : ov 15 = none) (args : List AV) (S : Store) : (Prg.mk T an ov).call 15 args S = F15 (Prg.mk T an ov).call args S :=
  ((Prg.mk T an ov).call_eq 15 args S).trans ((Prg.step_none h).trans (by kernel_rfl))

/-! ### 19 synoptic/synopticref16.Flags -/
noncomputable def F19_L1 (_C : CallEnv) (n0 : Nat) (t0 t1 : AV) (t5 : AV) (S : Store) : Option ((List AV × Store) ⊕ (Ex × List AV × Store)) :=
  let n1 := S.length
  (lenV t0).bind fun v4 =>
  (binV .lss t5 v4).bind fun v5 =>
  condK v5
    ((indexAV 3 none t0 t5).bind fun v6 =>
    (loadV (some 3) v6 S).bind fun v7 =>
    (indexAV 3 none t1 t5).bind fun v8 =>
    (loadV (some 3) v8 S).bind fun v9 =>
    (eqcV true [0, 0, 0] v7 v9).bind fun v10 =>
    condK v10
      (some (.inr (.ret, [(.bool false)], S)))
      ((binV .add t5 (.int .i64 1)).bind fun v11 =>
      (nextS n0 n1 [v11] S).bind fun r => some (.inl r)))
    (some (.inr (.exit 0, [.u], S)))

noncomputable def F19 (C : CallEnv) (args : List AV) (S : Store) : Option (AV × Store) :=
  let n0 := S.length
  let t0 := args.getD 0 .u
  let t1 := args.getD 1 .u
  (lenV t0).bind fun v1 =>
  (lenV t1).bind fun v2 =>
  (binV .neq v1 v2).bind fun v3 =>
  condK v3
    (finish false n0 [(.bool false)] S)
    ((iter (fun s => F19_L1 C n0 t0 t1 (s.1.getD 0 .u) s.2) ([(.int .i64 0)], S)).bind fun r12 => exK none
      (fun i13 => bif Nat.beq i13 0 then (finish false n0 [(.bool true)] r12.2.2) else (none))
      (finish false n0 [(r12.2.1.getD 0 .u)] r12.2.2) r12.1)

theorem c19 {ov : Over} (h : ov 19 = none) (args : List AV) (S : Store) : (Prg.mk T an ov).call 19 args S = F19 (Prg.mk T an ov).call args S :=
  ((Prg.mk T an ov).call_eq 19 args S).trans ((Prg.step_none h).trans (by kernel_rfl))

/-! ### 23 (*synoptic/synoptickeep.Src).Range -/
noncomputable def F23 (C : CallEnv) (args : List AV) (S : Store) : Option (AV × Store) :=
  let n0 := S.length
  let t0 := args.getD 0 .u
  let t1 := args.getD 1 .u
  let t2 := args.getD 2 .u
  (binV .sub t2 t1).bind fun v1 =>
  (binV .add v1 (.int .i64 1)).bind fun v2 =>
  (argVs [t0, v2]).bind fun v3 => (C 15 v3 S).bind fun v4 =>
  (binV .add t1 v4.1).bind fun v5 =>
  finish false n0 [v5] v4.2

theorem c23 {ov : Over} (h : ov 23 = none) (args : List AV) (S : Store) : (Prg.mk T an ov).call 23 args S = F23 (Prg.mk T an ov).call args S :=
  ((Prg.mk T an ov).call_eq 23 args S).trans ((Prg.step_none h).trans (by kernel_rfl))

/-! ### 27 synoptic/synopticlaw16.three -/
noncomputable def F27_L1 (_C : CallEnv) (n0 : Nat) (t13 t14 : AV) (t7 t15 : AV) (S : Store) : Option ((List AV × Store) ⊕ (Ex × List AV × Store)) :=
  let n1 := S.length
  (binV .lss t15 t14).bind fun v4 =>
  condK v4
    ((indexAV 1 none t13 t15).bind fun v5 =>
    (loadV none v5 S).bind fun v6 =>
    (binV .mul (.int .i64 60) t15).bind fun v7 =>
    (buildV [(.int .i64 0), (.int .i64 0)] [(0, 1, (.int .i64 1)), (1, 1, v6)]).bind fun v8 =>
    (bsliceV 2 [cellsOf v8]).bind fun v9 =>
    (buildV [(.int .i64 0), (.str []), (.int .i64 0), (.int .i64 0), (.int .i64 0), (.int .i64 0), (.int .i64 0), (.sl [] .full)] [(0, 1, (.int .i64 1)), (1, 1, (.str [65, 76, 80, 72, 65])), (2, 1, v7), (7, 1, v9)]).bind fun v10 =>
    (bsliceV 8 [cellsOf v10]).bind fun v11 =>
    (appendV 8 t7 v11 S).bind fun v12 =>
    (ownV 8 v12.1 v12.2).bind fun v13 =>
    (binV .add t15 (.int .i64 1)).bind fun v14 =>
    (nextS n0 n1 [v13.1, v14] v13.2).bind fun r => some (.inl r))
    (some (.inr (.exit 0, [t7], S)))

noncomputable def F27 (C : CallEnv) (args : List AV) (S : Store) : Option (AV × Store) :=
  let n0 := S.length
  let t0 := args.getD 0 .u
  let t1 := args.getD 1 .u
  let t2 := args.getD 2 .u
  (ownV 8 (.sl [] .full) S).bind fun v1 =>
  (bsliceV 1 [cellsOf t0, cellsOf t1, cellsOf t2]).bind fun v2 =>
  (lenV v2).bind fun v3 =>
  (iter (fun s => F27_L1 C n0 v2 v3 (s.1.getD 0 .u) (s.1.getD 1 .u) s.2) ([v1.1, (.int .i64 0)], v1.2)).bind fun r15 => exK none
    (fun i16 => bif Nat.beq i16 0 then (finish false n0 [(r15.2.1.getD 0 .u)] r15.2.2) else (none))
    (finish false n0 [.u] r15.2.2) r15.1

theorem c27 {ov : Over} (h : ov 27 = none) (args : List AV) (S : Store) : (Prg.mk T an ov).call 27 args S = F27 (Prg.mk T an ov).call args S :=
  ((Prg.mk T an ov).call_eq 27 args S).trans ((Prg.step_none h).trans (by kernel_rfl))

/-! ### 31 (*synoptic/synoptickeep.Src).Raw -/
noncomputable def F31 (_C : CallEnv) (args : List AV) (S : Store) : Option (AV × Store) :=
  let n0 := S.length
  let t0 := args.getD 0 .u
  (nilcV t0).bind fun v1 =>
  (fieldAV 1 v1).bind fun v2 =>
  (loadV none v2 S).bind fun v3 =>
  (nilcV t0).bind fun v4 =>
  (fieldAV 0 v4).bind fun v5 =>
  (loadV none v5 S).bind fun v6 =>
  (lenV v6).bind fun v7 =>
  (binV .geq v3 v7).bind fun v8 =>
  condK v8
    (finish false n0 [(.int .i64 0)] S)
    ((nilcV t0).bind fun v9 =>
    (fieldAV 1 v9).bind fun v10 =>
    (loadV none v10 S).bind fun v11 =>
    (binV .add v11 (.int .i64 1)).bind fun v12 =>
    (nilcV t0).bind fun v13 =>
    (fieldAV 1 v13).bind fun v14 =>
    (storeV n0 1 v14 v12 S).bind fun S15 =>
    (nilcV t0).bind fun v16 =>
    (fieldAV 0 v16).bind fun v17 =>
    (loadV none v17 S15).bind fun v18 =>
    (nilcV t0).bind fun v19 =>
    (fieldAV 1 v19).bind fun v20 =>
    (loadV none v20 S15).bind fun v21 =>
    (binV .sub v21 (.int .i64 1)).bind fun v22 =>
    (indexAV 1 none v18 v22).bind fun v23 =>
    (loadV none v23 S15).bind fun v24 =>
    finish false n0 [v24] S15)

theorem c31 {ov : Over} (h : ov 31 = none) (args : List AV) (S : Store) : (Prg.mk T an ov).call 31 args S = F31 (Prg.mk T an ov).call args S :=
  ((Prg.mk T an ov).call_eq 31 args S).trans ((Prg.step_none h).trans (by kernel_rfl))

/-! ### 35 synoptic/timeline.steps -/
noncomputable def F35_J1 (_C : CallEnv) (n0 : Nat) (n1 : Nat) (t6 t7 : AV) (S : Store) : Option ((List AV × Store) ⊕ (Ex × List AV × Store)) :=
  (binV .add t7 (.int .i64 1)).bind fun v41 =>
  (nextS n0 n1 [t6, v41] S).bind fun r => some (.inl r)

noncomputable def F35_L1 (C : CallEnv) (n0 : Nat) (t0 t1 t5 : AV) (t6 t7 : AV) (S : Store) : Option ((List AV × Store) ⊕ (Ex × List AV × Store)) :=
  let n1 := S.length
  (lenV t0).bind fun v3 =>
  (binV .lss t7 v3).bind fun v4 =>
  condK v4
    ((indexAV 3 none t0 t6).bind fun v5 =>
    (loadV (some 3) v5 S).bind fun v6 =>
    (indexAV 3 none t0 t7).bind fun v7 =>
    (loadV (some 3) v7 S).bind fun v8 =>
    (argVs [v6, v8, t1]).bind fun v9 => (C 53 v9 S).bind fun v10 =>
    (guardK v10.1 false (some (t7, v10.2)) (some (.und, v10.2))).bind fun g11 =>
    (guardK v10.1 false ((binV .add g11.1 (.int .i64 1)).bind fun v13 =>
    some (v13, g11.2)) (some (.und, g11.2))).bind fun g12 =>
    (guardK v10.1 false (some (t0, g12.2)) (some (.und, g12.2))).bind fun g14 =>
    (guardK v10.1 false ((lenV g14.1).bind fun v16 =>
    some (v16, g14.2)) (some (.und, g14.2))).bind fun g15 =>
    (guardK v10.1 false ((binV .lss g12.1 g15.1).bind fun v18 =>
    some (v18, g15.2)) (some (.und, g15.2))).bind fun g17 =>
    (guardK v10.1 false (some (g17.1, g17.2)) (some (.und, g17.2))).bind fun g19 =>
    (guardK g19.1 true (some (t0, g19.2)) (some (.und, g19.2))).bind fun g20 =>
    (guardK g19.1 true (some (t7, g20.2)) (some (.und, g20.2))).bind fun g21 =>
    (guardK g19.1 true ((indexAV 3 none g20.1 g21.1).bind fun v23 =>
    some (v23, g21.2)) (some (.und, g21.2))).bind fun g22 =>
    (guardK g19.1 true ((loadV (some 3) g22.1 g22.2).bind fun v25 =>
    some (v25, g22.2)) (some (.und, g22.2))).bind fun g24 =>
    (guardK g19.1 true (some (t0, g24.2)) (some (.und, g24.2))).bind fun g26 =>
    (guardK g19.1 true (some (t7, g26.2)) (some (.und, g26.2))).bind fun g27 =>
    (guardK g19.1 true ((binV .add g27.1 (.int .i64 1)).bind fun v29 =>
    some (v29, g27.2)) (some (.und, g27.2))).bind fun g28 =>
    (guardK g19.1 true ((indexAV 3 none g26.1 g28.1).bind fun v31 =>
    some (v31, g28.2)) (some (.und, g28.2))).bind fun g30 =>
    (guardK g19.1 true ((loadV (some 3) g30.1 g30.2).bind fun v33 =>
    some (v33, g30.2)) (some (.und, g30.2))).bind fun g32 =>
    (guardK g19.1 true (some (t1, g32.2)) (some (.und, g32.2))).bind fun g34 =>
    (guardK g19.1 true ((argVs [g24.1, g32.1, g34.1]).bind fun v36 => (C 53 v36 g34.2).bind fun v37 =>
    some (v37.1, v37.2)) (some (.und, g34.2))).bind fun g35 =>
    (guardK v10.1 false ((pickV g19.1 g35.1 (.bool false)).bind fun v39 =>
    some (v39, g35.2)) (some (.und, g35.2))).bind fun g38 =>
    (pickV v10.1 (.bool true) g38.1).bind fun v40 =>
    condK v40
      (F35_J1 C n0 n1 t7 t7 g38.2)
      ((indexAV 1 none t5 t7).bind fun v42 =>
      (storeV n0 1 v42 (.bool true) g38.2).bind fun S43 =>
      F35_J1 C n0 n1 t6 t7 S43))
    (some (.inr (.exit 0, [], S)))

noncomputable def F35 (C : CallEnv) (args : List AV) (S : Store) : Option (AV × Store) :=
  let n0 := S.length
  let t0 := args.getD 0 .u
  let t1 := args.getD 1 .u
  (lenV t0).bind fun v1 =>
  (msliceV [(.bool false)] v1 v1 S).bind fun v2 =>
  (iter (fun s => F35_L1 C n0 t0 t1 v2.1 (s.1.getD 0 .u) (s.1.getD 1 .u) s.2) ([(.int .i64 0), (.int .i64 1)], v2.2)).bind fun r44 => exK none
    (fun i45 => bif Nat.beq i45 0 then (finish false n0 [v2.1] r44.2.2) else (none))
    (finish false n0 [.u] r44.2.2) r44.1

theorem c35 {ov : Over} (h : ov 35 = none) (args : List AV) (S : Store) : (Prg.mk T an ov).call 35 args S = F35 (Prg.mk T an ov).call args S :=
  ((Prg.mk T an ov).call_eq 35 args S).trans ((Prg.step_none h).trans (by kernel_rfl))

/-! ### 40 cmp.Compare[int] -/
noncomputable def F40 (C : CallEnv) (args : List AV) (S : Store) : Option (AV × Store) :=
  let n0 := S.length
  let t0 := args.getD 0 .u
  let t1 := args.getD 1 .u
  (argVs [t0]).bind fun v1 => (C 57 v1 S).bind fun v2 =>
  (argVs [t1]).bind fun v3 => (C 57 v3 v2.2).bind fun v4 =>
  condK v2.1
    (condK v4.1
      (finish false n0 [(.int .i64 0)] v4.2)
      (finish false n0 [(.int .i64 (-1))] v4.2))
    (condK v4.1
      (finish false n0 [(.int .i64 1)] v4.2)
      ((binV .lss t0 t1).bind fun v5 =>
      condK v5
        (finish false n0 [(.int .i64 (-1))] v4.2)
        ((binV .gtr t0 t1).bind fun v6 =>
        condK v6
          (finish false n0 [(.int .i64 1)] v4.2)
          (finish false n0 [(.int .i64 0)] v4.2))))

theorem c40 {ov : Over} (h : ov 40 = none) (args : List AV) (S : Store) : (Prg.mk T an ov).call 40 args S = F40 (Prg.mk T an ov).call args S :=
  ((Prg.mk T an ov).call_eq 40 args S).trans ((Prg.step_none h).trans (by kernel_rfl))

/-! ### 44 synoptic/synopticref04.Describe -/
noncomputable def F44 (_C : CallEnv) (args : List AV) (S : Store) : Option (AV × Store) :=
  let n0 := S.length
  let t0 := args.getD 0 .u
  let S1 : Store := S ++ [.obj [(.str []), (.int .i64 0), (.int .i64 0), (.int .i64 0)]]
  (binV .lss t0 (.int .i64 1)).bind fun v2 =>
  (guardK v2 false (some (t0, S1)) (some (.und, S1))).bind fun g3 =>
  (guardK v2 false ((binV .gtr g3.1 (.int .i64 11)).bind fun v5 =>
  some (v5, g3.2)) (some (.und, g3.2))).bind fun g4 =>
  (pickV v2 (.bool true) g4.1).bind fun v6 =>
  condK v6
    ((buildV [(.str []), (.int .i64 0), (.int .i64 0), (.int .i64 0)] []).bind fun v7 =>
    (storeV n0 4 (.ptr S.length 0) v7 g4.2).bind fun S8 =>
    ((loadV (some 4) (.ptr S.length 0) S8).bind fun v9 => ((some []).bind fun v13 => some ((.int .i64 4) :: v13)).bind fun v12 => some (v9 :: v12)).bind fun v11 => finish false n0 v11 S8)
    ((buildV [(.str []), (.int .i64 0), (.int .i64 0), (.int .i64 0)] [(0, 1, (.str [80])), (1, 1, (.int .i64 8000)), (2, 1, (.int .i64 11000)), (3, 1, (.int .i64 5))]).bind fun v14 =>
    (buildV [(.str []), (.int .i64 0), (.int .i64 0), (.int .i64 0)] [(0, 1, (.str [84])), (1, 1, (.int .i64 1800)), (2, 1, (.int .i64 3300)), (3, 1, (.int .i64 4))]).bind fun v15 =>
    (buildV [(.str []), (.int .i64 0), (.int .i64 0), (.int .i64 0)] [(0, 1, (.str [68])), (1, 1, (.int .i64 1800)), (2, 1, (.int .i64 3300)), (3, 1, (.int .i64 4))]).bind fun v16 =>
    (buildV [(.str []), (.int .i64 0), (.int .i64 0), (.int .i64 0)] [(0, 1, (.str [69])), (1, 1, (.int .i64 (-1000))), (2, 1, (.int .i64 1000)), (3, 1, (.int .i64 4))]).bind fun v17 =>
    (buildV [(.str []), (.int .i64 0), (.int .i64 0), (.int .i64 0)] [(0, 1, (.str [78])), (1, 1, (.int .i64 (-1000))), (2, 1, (.int .i64 1000)), (3, 1, (.int .i64 4))]).bind fun v18 =>
    (buildV [(.str []), (.int .i64 0), (.int .i64 0), (.int .i64 0)] [(0, 1, (.str [65])), (1, 1, (.int .i64 900)), (2, 1, (.int .i64 1700)), (3, 1, (.int .i64 4))]).bind fun v19 =>
    (buildV [(.str []), (.int .i64 0), (.int .i64 0), (.int .i64 0)] [(0, 1, (.str [66])), (1, 1, (.int .i64 2000)), (2, 1, (.int .i64 3200)), (3, 1, (.int .i64 4))]).bind fun v20 =>
    (buildV [(.str []), (.int .i64 0), (.int .i64 0), (.int .i64 0)] [(0, 1, (.str [70])), (1, 1, (.int .i64 2400)), (2, 1, (.int .i64 3400)), (3, 1, (.int .i64 4))]).bind fun v21 =>
    (buildV [(.str []), (.int .i64 0), (.int .i64 0), (.int .i64 0)] [(0, 1, (.str [71])), (1, 1, (.int .i64 2000)), (2, 1, (.int .i64 3000)), (3, 1, (.int .i64 4))]).bind fun v22 =>
    (buildV [(.str []), (.int .i64 0), (.int .i64 0), (.int .i64 0)] [(0, 1, (.str [74])), (1, 1, (.int .i64 4400)), (2, 1, (.int .i64 6200)), (3, 1, (.int .i64 4))]).bind fun v23 =>
    (buildV [(.str []), (.int .i64 0), (.int .i64 0), (.int .i64 0)] [(0, 1, (.str [75])), (1, 1, (.int .i64 2000)), (2, 1, (.int .i64 2900)), (3, 1, (.int .i64 4))]).bind fun v24 =>
    (bsliceV 4 [cellsOf v14, cellsOf v15, cellsOf v16, cellsOf v17, cellsOf v18, cellsOf v19, cellsOf v20, cellsOf v21, cellsOf v22, cellsOf v23, cellsOf v24]).bind fun v25 =>
    (binV .sub t0 (.int .i64 1)).bind fun v26 =>
    (indexAV 4 none v25 v26).bind fun v27 =>
    (loadV (some 4) v27 g4.2).bind fun v28 =>
    (storeV n0 4 (.ptr S.length 0) v28 g4.2).bind fun S29 =>
    ((loadV (some 4) (.ptr S.length 0) S29).bind fun v30 => ((some []).bind fun v34 => some ((.int .i64 0) :: v34)).bind fun v33 => some (v30 :: v33)).bind fun v32 => finish false n0 v32 S29)

theorem c44 {ov : Over} (h : ov 44 = none) (args : List AV) (S : Store) : (Prg.mk T an ov).call 44 args S = F44 (Prg.mk T an ov).call args S :=
  ((Prg.mk T an ov).call_eq 44 args S).trans ((Prg.step_none h).trans (by kernel_rfl))

/-! ### 48 synoptic/element.Validate -/
noncomputable def F48_L1 (_C : CallEnv) (n0 : Nat) (t1 : AV) (t4 : AV) (S : Store) : Option ((List AV × Store) ⊕ (Ex × List AV × Store)) :=
  let n1 := S.length
  (loadV none t1 S).bind fun v7 =>
  (lenV v7).bind fun v8 =>
  (binV .lss t4 v8).bind fun v9 =>
  condK v9
    ((loadV none t1 S).bind fun v10 =>
    (binV .sub t4 (.int .i64 1)).bind fun v11 =>
    (indexAV 2 none v10 v11).bind fun v12 =>
    (fieldAV 0 v12).bind fun v13 =>
    (loadV none v13 S).bind fun v14 =>
    (loadV none t1 S).bind fun v15 =>
    (indexAV 2 none v15 t4).bind fun v16 =>
    (fieldAV 0 v16).bind fun v17 =>
    (loadV none v17 S).bind fun v18 =>
    (binV .geq v14 v18).bind fun v19 =>
    condK v19
      (some (.inr (.ret, [(.int .i64 8)], S)))
      ((binV .add t4 (.int .i64 1)).bind fun v20 =>
      (nextS n0 n1 [v20] S).bind fun r => some (.inl r)))
    (some (.inr (.exit 1, [.u], S)))

noncomputable def F48 (C : CallEnv) (args : List AV) (S : Store) : Option (AV × Store) :=
  let n0 := S.length
  let t0 := args.getD 0 .u
  (imms (cellsOf t0)).bind fun v1 =>
  (cells1 [(.ip v1 0)]).bind fun v2 =>
  (argVs [(.int .i64 4)]).bind fun v3 => (C 62 (v3 ++ v2) S).bind fun v4 =>
  condK v4.1
    (finish false n0 [(.int .i64 4)] v4.2)
    ((argVs [(.int .i64 1)]).bind fun v5 => (C 62 (v5 ++ v2) v4.2).bind fun v6 =>
    condK v6.1
      (finish false n0 [(.int .i64 1)] v6.2)
      ((iter (fun s => F48_L1 C n0 (.ip v1 0) (s.1.getD 0 .u) s.2) ([(.int .i64 1)], v6.2)).bind fun r21 => exK none
        (fun i22 => bif Nat.beq i22 1 then (finish false n0 [(.int .i64 0)] r21.2.2) else (none))
        (finish false n0 [(r21.2.1.getD 0 .u)] r21.2.2) r21.1))

theorem c48 {ov : Over} (h : ov 48 = none) (args : List AV) (S : Store) : (Prg.mk T an ov).call 48 args S = F48 (Prg.mk T an ov).call args S :=
  ((Prg.mk T an ov).call_eq 48 args S).trans ((Prg.step_none h).trans (by kernel_rfl))

/-! ### 53 synoptic/timeline.slow -/
noncomputable def F53 (C : CallEnv) (args : List AV) (S : Store) : Option (AV × Store) :=
  let n0 := S.length
  let t0 := args.getD 0 .u
  let t1 := args.getD 1 .u
  let t2 := args.getD 2 .u
  (imms (cellsOf t0)).bind fun v1 =>
  (imms (cellsOf t1)).bind fun v2 =>
  (loadV (some 3) (.ip v1 0) S).bind fun v3 =>
  (loadV (some 3) (.ip v2 0) S).bind fun v4 =>
  (argVs [v3, v4]).bind fun v5 => (C 54 v5 S).bind fun v6 =>
  (fieldAV 1 (.ip v2 0)).bind fun v7 =>
  (loadIV none v7).bind fun v8 =>
  (fieldAV 1 (.ip v1 0)).bind fun v9 =>
  (loadIV none v9).bind fun v10 =>
  (binV .sub v8 v10).bind fun v11 =>
  (binV .add v11 (.int .i64 60)).bind fun v12 =>
  (binV .sub v12 (.int .i64 1)).bind fun v13 =>
  (binV .quo v13 (.int .i64 60)).bind fun v14 =>
  (binV .mul t2 v14).bind fun v15 =>
  (binV .leq v6.1 v15).bind fun v16 =>
  finish false n0 [v16] v6.2

theorem c53 {ov : Over} (h : ov 53 = none) (args : List AV) (S : Store) : (Prg.mk T an ov).call 53 args S = F53 (Prg.mk T an ov).call args S :=
  ((Prg.mk T an ov).call_eq 53 args S).trans ((Prg.step_none h).trans (by kernel_rfl))

/-! ### 59 synoptic/synopticref02.Addresses -/
noncomputable def F59_J1 (_C : CallEnv) (n0 : Nat) (n1 : Nat) (t5 t6 : AV) (S : Store) : Option ((List AV × Store) ⊕ (Ex × List AV × Store)) :=
  (binV .add t6 (.int .i64 1)).bind fun v22 =>
  (nextS n0 n1 [t5, v22] S).bind fun r => some (.inl r)

noncomputable def F59_L1 (C : CallEnv) (n0 : Nat) (t4 : AV) (t5 t6 : AV) (S : Store) : Option ((List AV × Store) ⊕ (Ex × List AV × Store)) :=
  let n1 := S.length
  (binV .lss t6 (.int .i64 20)).bind fun v11 =>
  condK v11
    ((loadV (some 12) t4 S).bind fun v12 =>
    (argVs [t6, v12]).bind fun v13 => (C 80 v13 S).bind fun v14 =>
    (extractV v14.1 0).bind fun v15 =>
    (extractV v14.1 1).bind fun v16 =>
    (imms (cellsOf v15)).bind fun v17 => if v17.length = 4 then
      condK v16
        ((loadV (some 4) (.ip v17 0) v14.2).bind fun v18 =>
        (bsliceV 4 [cellsOf v18]).bind fun v19 =>
        (appendV 4 t5 v19 v14.2).bind fun v20 =>
        (ownV 4 v20.1 v20.2).bind fun v21 =>
        F59_J1 C n0 n1 v21.1 t6 v21.2)
        (F59_J1 C n0 n1 t5 t6 v14.2)
      else none)
    (some (.inr (.exit 0, [t5], S)))

noncomputable def F59 (C : CallEnv) (args : List AV) (S : Store) : Option (AV × Store) :=
  let n0 := S.length
  let t0 := args.getD 0 .u
  (imms (cellsOf t0)).bind fun v1 =>
  (loadV (some 4) (.ip v1 0) S).bind fun v2 =>
  (argVs [v2]).bind fun v3 => (C 78 v3 S).bind fun v4 =>
  (unV .not v4.1).bind fun v5 =>
  condK v5
    (finish false n0 [(.sl [] .full), (.int .i64 1)] v4.2)
    ((loadV (some 4) (.ip v1 0) v4.2).bind fun v6 =>
    (argVs [v6]).bind fun v7 => (C 79 v7 v4.2).bind fun v8 =>
    (imms (cellsOf v8.1)).bind fun v9 => if v9.length = 12 then
      (ownV 4 (.sl [] .full) v8.2).bind fun v10 =>
      (iter (fun s => F59_L1 C n0 (.ip v9 0) (s.1.getD 0 .u) (s.1.getD 1 .u) s.2) ([v10.1, (.int .i64 0)], v10.2)).bind fun r23 => exK none
        (fun i24 => bif Nat.beq i24 0 then (finish false n0 [(r23.2.1.getD 0 .u), (.int .i64 0)] r23.2.2) else (none))
        (finish false n0 [.u, .u] r23.2.2) r23.1
      else none)

theorem c59 {ov : Over} (h : ov 59 = none) (args : List AV) (S : Store) : (Prg.mk T an ov).call 59 args S = F59 (Prg.mk T an ov).call args S :=
  ((Prg.mk T an ov).call_eq 59 args S).trans ((Prg.step_none h).trans (by kernel_rfl))

/-! ### 63 slices.ContainsFunc[[]synoptic/api.Reading,synoptic/api.Reading] -/
noncomputable def F63 (C : CallEnv) (args : List AV) (S : Store) : Option (AV × Store) :=
  let n0 := S.length
  let t0 := args.getD 0 .u
  let t1 := args.getD 1 .u
  (argVs [t0, t1]).bind fun v1 => (C 82 v1 S).bind fun v2 =>
  (binV .geq v2.1 (.int .i64 0)).bind fun v3 =>
  finish false n0 [v3] v2.2

theorem c63 {ov : Over} (h : ov 63 = none) (args : List AV) (S : Store) : (Prg.mk T an ov).call 63 args S = F63 (Prg.mk T an ov).call args S :=
  ((Prg.mk T an ov).call_eq 63 args S).trans ((Prg.step_none h).trans (by kernel_rfl))

/-! ### 78 synoptic/synopticref02.Valid -/
noncomputable def F78 (_C : CallEnv) (args : List AV) (S : Store) : Option (AV × Store) :=
  let n0 := S.length
  let t0 := args.getD 0 .u
  (imms (cellsOf t0)).bind fun v1 =>
  (fieldAV 0 (.ip v1 0)).bind fun v2 =>
  (loadV none v2 S).bind fun v3 =>
  (binV .geq v3 (.int .i64 0)).bind fun v4 =>
  (guardK v4 true ((fieldAV 0 (.ip v1 0)).bind fun v6 =>
  some (v6, S)) (some (.und, S))).bind fun g5 =>
  (guardK v4 true ((loadV none g5.1 g5.2).bind fun v8 =>
  some (v8, g5.2)) (some (.und, g5.2))).bind fun g7 =>
  (guardK v4 true ((binV .lss g7.1 (.int .i64 20)).bind fun v10 =>
  some (v10, g7.2)) (some (.und, g7.2))).bind fun g9 =>
  (pickV v4 g9.1 (.bool false)).bind fun v11 =>
  (guardK v11 true ((fieldAV 1 (.ip v1 0)).bind fun v13 =>
  some (v13, g9.2)) (some (.und, g9.2))).bind fun g12 =>
  (guardK v11 true ((loadV none g12.1 g12.2).bind fun v15 =>
  some (v15, g12.2)) (some (.und, g12.2))).bind fun g14 =>
  (guardK v11 true ((binV .geq g14.1 (.int .i64 0)).bind fun v17 =>
  some (v17, g14.2)) (some (.und, g14.2))).bind fun g16 =>
  (pickV v11 g16.1 (.bool false)).bind fun v18 =>
  (guardK v18 true ((fieldAV 1 (.ip v1 0)).bind fun v20 =>
  some (v20, g16.2)) (some (.und, g16.2))).bind fun g19 =>
  (guardK v18 true ((loadV none g19.1 g19.2).bind fun v22 =>
  some (v22, g19.2)) (some (.und, g19.2))).bind fun g21 =>
  (guardK v18 true ((binV .leq g21.1 (.int .i64 840)).bind fun v24 =>
  some (v24, g21.2)) (some (.und, g21.2))).bind fun g23 =>
  (pickV v18 g23.1 (.bool false)).bind fun v25 =>
  (guardK v25 true ((fieldAV 2 (.ip v1 0)).bind fun v27 =>
  some (v27, g23.2)) (some (.und, g23.2))).bind fun g26 =>
  (guardK v25 true ((loadV none g26.1 g26.2).bind fun v29 =>
  some (v29, g26.2)) (some (.und, g26.2))).bind fun g28 =>
  (guardK v25 true ((binV .geq g28.1 (.int .i64 0)).bind fun v31 =>
  some (v31, g28.2)) (some (.und, g28.2))).bind fun g30 =>
  (pickV v25 g30.1 (.bool false)).bind fun v32 =>
  (guardK v32 true ((fieldAV 2 (.ip v1 0)).bind fun v34 =>
  some (v34, g30.2)) (some (.und, g30.2))).bind fun g33 =>
  (guardK v32 true ((loadV none g33.1 g33.2).bind fun v36 =>
  some (v36, g33.2)) (some (.und, g33.2))).bind fun g35 =>
  (guardK v32 true ((binV .leq g35.1 (.int .i64 840)).bind fun v38 =>
  some (v38, g35.2)) (some (.und, g35.2))).bind fun g37 =>
  (pickV v32 g37.1 (.bool false)).bind fun v39 =>
  (guardK v39 true ((fieldAV 3 (.ip v1 0)).bind fun v41 =>
  some (v41, g37.2)) (some (.und, g37.2))).bind fun g40 =>
  (guardK v39 true ((loadV none g40.1 g40.2).bind fun v43 =>
  some (v43, g40.2)) (some (.und, g40.2))).bind fun g42 =>
  (guardK v39 true ((binV .geq g42.1 (.int .i64 0)).bind fun v45 =>
  some (v45, g42.2)) (some (.und, g42.2))).bind fun g44 =>
  (pickV v39 g44.1 (.bool false)).bind fun v46 =>
  (guardK v46 true ((fieldAV 3 (.ip v1 0)).bind fun v48 =>
  some (v48, g44.2)) (some (.und, g44.2))).bind fun g47 =>
  (guardK v46 true ((loadV none g47.1 g47.2).bind fun v50 =>
  some (v50, g47.2)) (some (.und, g47.2))).bind fun g49 =>
  (guardK v46 true ((binV .leq g49.1 (.int .i64 840)).bind fun v52 =>
  some (v52, g49.2)) (some (.und, g49.2))).bind fun g51 =>
  (pickV v46 g51.1 (.bool false)).bind fun v53 =>
  (guardK v53 true ((fieldAV 1 (.ip v1 0)).bind fun v55 =>
  some (v55, g51.2)) (some (.und, g51.2))).bind fun g54 =>
  (guardK v53 true ((loadV none g54.1 g54.2).bind fun v57 =>
  some (v57, g54.2)) (some (.und, g54.2))).bind fun g56 =>
  (guardK v53 true ((fieldAV 2 (.ip v1 0)).bind fun v59 =>
  some (v59, g56.2)) (some (.und, g56.2))).bind fun g58 =>
  (guardK v53 true ((loadV none g58.1 g58.2).bind fun v61 =>
  some (v61, g58.2)) (some (.und, g58.2))).bind fun g60 =>
  (guardK v53 true ((binV .add g56.1 g60.1).bind fun v63 =>
  some (v63, g60.2)) (some (.und, g60.2))).bind fun g62 =>
  (guardK v53 true ((fieldAV 3 (.ip v1 0)).bind fun v65 =>
  some (v65, g62.2)) (some (.und, g62.2))).bind fun g64 =>
  (guardK v53 true ((loadV none g64.1 g64.2).bind fun v67 =>
  some (v67, g64.2)) (some (.und, g64.2))).bind fun g66 =>
  (guardK v53 true ((binV .add g62.1 g66.1).bind fun v69 =>
  some (v69, g66.2)) (some (.und, g66.2))).bind fun g68 =>
  (guardK v53 true ((binV .eql g68.1 (.int .i64 840)).bind fun v71 =>
  some (v71, g68.2)) (some (.und, g68.2))).bind fun g70 =>
  (pickV v53 g70.1 (.bool false)).bind fun v72 =>
  finish false n0 [v72] g70.2

theorem c78 {ov : Over} (h : ov 78 = none) (args : List AV) (S : Store) : (Prg.mk T an ov).call 78 args S = F78 (Prg.mk T an ov).call args S :=
  ((Prg.mk T an ov).call_eq 78 args S).trans ((Prg.step_none h).trans (by kernel_rfl))

/-! ### 82 slices.IndexFunc[[]synoptic/api.Reading,synoptic/api.Reading] -/
noncomputable def F82_L1 (C : CallEnv) (n0 : Nat) (t0 t1 t7 : AV) (t8 : AV) (S : Store) : Option ((List AV × Store) ⊕ (Ex × List AV × Store)) :=
  let n1 := S.length
  (binV .lss t8 t7).bind fun v2 =>
  condK v2
    ((indexAV 2 none t0 t8).bind fun v3 =>
    (loadV (some 2) v3 S).bind fun v4 =>
    match t1 with
    | .clo v7 v8 => (argVs [v4]).bind fun v5 => (C v7 (v5 ++ v8) S).bind fun v6 =>
      condK v6.1
        (some (.inr (.ret, [t8], v6.2)))
        ((binV .add t8 (.int .i64 1)).bind fun v9 =>
        (nextS n0 n1 [v9] v6.2).bind fun r => some (.inl r))
    | _ => none)
    (some (.inr (.exit 0, [.u], S)))

noncomputable def F82 (C : CallEnv) (args : List AV) (S : Store) : Option (AV × Store) :=
  let n0 := S.length
  let t0 := args.getD 0 .u
  let t1 := args.getD 1 .u
  (lenV t0).bind fun v1 =>
  (iter (fun s => F82_L1 C n0 t0 t1 v1 (s.1.getD 0 .u) s.2) ([(.int .i64 0)], S)).bind fun r10 => exK none
    (fun i11 => bif Nat.beq i11 0 then (finish false n0 [(.int .i64 (-1))] r10.2.2) else (none))
    (finish false n0 [(r10.2.1.getD 0 .u)] r10.2.2) r10.1

theorem c82 {ov : Over} (h : ov 82 = none) (args : List AV) (S : Store) : (Prg.mk T an ov).call 82 args S = F82 (Prg.mk T an ov).call args S :=
  ((Prg.mk T an ov).call_eq 82 args S).trans ((Prg.step_none h).trans (by kernel_rfl))

end Go.Proofs.YtlilahgndpdkfaaDoor

/-
  Printed by a program of this claim (gen.py, mk.py): functions.
-/
namespace Go.Proofs.YtlilahgndpdkfaaDoor
open Go Go.Abs
set_option maxRecDepth 100000
/-! ### 4 synoptic/synopticlaw16.TimelineOrder -/
noncomputable def F4_L1 (_C : CallEnv) (n0 : Nat) (t4 _t5 _t6 _t8 _t9 t38 t39 : AV) (t7 t40 : AV) (S : Store) : Option ((List AV × Store) ⊕ (Ex × List AV × Store)) :=
  let n1 := S.length
  (binV .lss t40 t39).bind fun v17 =>
  condK v17
    ((indexAV 1 none t38 t40).bind fun v18 =>
    (loadV none v18 S).bind fun v19 =>
    (indexAV 8 none t4 v19).bind fun v20 =>
    (loadV (some 8) v20 S).bind fun v21 =>
    (bsliceV 8 [cellsOf v21]).bind fun v22 =>
    (appendV 8 t7 v22 S).bind fun v23 =>
    (ownV 8 v23.1 v23.2).bind fun v24 =>
    (binV .add t40 (.int .i64 1)).bind fun v25 =>
    (nextS n0 n1 [v24.1, v25] v24.2).bind fun r => some (.inl r))
    (some (.inr (.exit 0, [t7], S)))

noncomputable def F4_J1 (_C : CallEnv) (n0 : Nat) (n2 : Nat) (t8 t9 t54 : AV) (S : Store) : Option ((List AV × Store) ⊕ (Ex × List AV × Store)) :=
  (binV .add t54 (.int .i64 1)).bind fun v42 =>
  (nextS n0 n2 [t8, t9, v42] S).bind fun r => some (.inl r)

noncomputable def F4_L2 (C : CallEnv) (n0 : Nat) (t4 _t5 _t6 _t7 t53 : AV) (t8 t9 t54 : AV) (S : Store) : Option ((List AV × Store) ⊕ (Ex × List AV × Store)) :=
  let n2 := S.length
  (binV .lss t54 t53).bind fun v29 =>
  condK v29
    ((indexAV 8 none t4 t54).bind fun v30 =>
    (fieldAV 1 v30).bind fun v31 =>
    (loadV none v31 S).bind fun v32 =>
    (binV .eql v32 (.str [65, 76, 80, 72, 65])).bind fun v33 =>
    condK v33
      ((indexAV 8 none t4 t54).bind fun v34 =>
      (loadV (some 8) v34 S).bind fun v35 =>
      (bsliceV 8 [cellsOf v35]).bind fun v36 =>
      (appendV 8 t8 v36 S).bind fun v37 =>
      (bsliceV 1 [cellsOf t54]).bind fun v38 =>
      (appendV 1 t9 v38 v37.2).bind fun v39 =>
      (ownV 8 v37.1 v39.2).bind fun v40 =>
      (ownV 1 v39.1 v40.2).bind fun v41 =>
      F4_J1 C n0 n2 v40.1 v41.1 t54 v41.2)
      (F4_J1 C n0 n2 t8 t9 t54 S))
    (some (.inr (.exit 2, [t8, t9], S)))

noncomputable def F4_L3 (C : CallEnv) (n0 : Nat) (_t4 t6 _t9 t13 _t17 t110 t111 : AV) (t112 : AV) (S : Store) : Option ((List AV × Store) ⊕ (Ex × List AV × Store)) :=
  let n3 := S.length
  (binV .lss t112 t111).bind fun v79 =>
  condK v79
    ((indexAV 3 none t110 t112).bind fun v80 =>
    (loadV (some 3) v80 S).bind fun v81 =>
    (imms (cellsOf v81)).bind fun v82 => if v82.length = 3 then
      (fieldAV 0 (.ip v82 0)).bind fun v83 =>
      (loadV none v83 S).bind fun v84 =>
      (binV .lss v84 (.int .i64 0)).bind fun v85 =>
      (guardK v85 false ((fieldAV 0 (.ip v82 0)).bind fun v87 =>
      some (v87, S)) (some (.und, S))).bind fun g86 =>
      (guardK v85 false ((loadV none g86.1 g86.2).bind fun v89 =>
      some (v89, g86.2)) (some (.und, g86.2))).bind fun g88 =>
      (guardK v85 false (some (t6, g88.2)) (some (.und, g88.2))).bind fun g90 =>
      (guardK v85 false ((lenV g90.1).bind fun v92 =>
      some (v92, g90.2)) (some (.und, g90.2))).bind fun g91 =>
      (guardK v85 false ((binV .geq g88.1 g91.1).bind fun v94 =>
      some (v94, g91.2)) (some (.und, g91.2))).bind fun g93 =>
      (pickV v85 (.bool true) g93.1).bind fun v95 =>
      (guardK v95 false (some (t13, g93.2)) (some (.und, g93.2))).bind fun g96 =>
      (guardK v95 false (some (t6, g96.2)) (some (.und, g96.2))).bind fun g97 =>
      (guardK v95 false ((fieldAV 0 (.ip v82 0)).bind fun v99 =>
      some (v99, g97.2)) (some (.und, g97.2))).bind fun g98 =>
      (guardK v95 false ((loadV none g98.1 g98.2).bind fun v101 =>
      some (v101, g98.2)) (some (.und, g98.2))).bind fun g100 =>
      (guardK v95 false ((indexAV 1 none g97.1 g100.1).bind fun v103 =>
      some (v103, g100.2)) (some (.und, g100.2))).bind fun g102 =>
      (guardK v95 false ((loadV none g102.1 g102.2).bind fun v105 =>
      some (v105, g102.2)) (some (.und, g102.2))).bind fun g104 =>
      (guardK v95 false ((fieldAV 1 (.ip v82 0)).bind fun v107 =>
      some (v107, g104.2)) (some (.und, g104.2))).bind fun g106 =>
      (guardK v95 false ((loadV none g106.1 g106.2).bind fun v109 =>
      some (v109, g106.2)) (some (.und, g106.2))).bind fun g108 =>
      (guardK v95 false ((fieldAV 2 (.ip v82 0)).bind fun v111 =>
      some (v111, g108.2)) (some (.und, g108.2))).bind fun g110 =>
      (guardK v95 false ((loadV none g110.1 g110.2).bind fun v113 =>
      some (v113, g110.2)) (some (.und, g110.2))).bind fun g112 =>
      (guardK v95 false ((buildV [(.int .i64 0), (.int .i64 0), (.int .i64 0)] [(0, 1, g104.1), (1, 1, g108.1), (2, 1, g112.1)]).bind fun v115 =>
      some (v115, g112.2)) (some (.und, g112.2))).bind fun g114 =>
      (guardK v95 false ((argVs [g96.1, g114.1]).bind fun v117 => (C 21 v117 g114.2).bind fun v118 =>
      some (v118.1, v118.2)) (some (.und, g114.2))).bind fun g116 =>
      (guardK v95 false ((unV .not g116.1).bind fun v120 =>
      some (v120, g116.2)) (some (.und, g116.2))).bind fun g119 =>
      (pickV v95 (.bool true) g119.1).bind fun v121 =>
      condK v121
        (some (.inr (.ret, [(.bool false)], g119.2)))
        ((binV .add t112 (.int .i64 1)).bind fun v122 =>
        (nextS n0 n3 [v122] g119.2).bind fun r => some (.inl r))
      else none)
    (some (.inr (.exit 4, [.u], S)))

noncomputable def F4_J2 (_C : CallEnv) (n0 : Nat) (n4 : Nat) (t21 t144 : AV) (S : Store) : Option ((List AV × Store) ⊕ (Ex × List AV × Store)) :=
  (binV .add t144 (.int .i64 1)).bind fun v137 =>
  (nextS n0 n4 [t21, v137] S).bind fun r => some (.inl r)

noncomputable def F4_L4 (C : CallEnv) (n0 : Nat) (t4 _t9 _t13 _t17 t142 t143 : AV) (t21 t144 : AV) (S : Store) : Option ((List AV × Store) ⊕ (Ex × List AV × Store)) :=
  let n4 := S.length
  (binV .lss t144 t143).bind fun v126 =>
  condK v126
    ((indexAV 3 none t142 t144).bind fun v127 =>
    (loadV (some 3) v127 S).bind fun v128 =>
    (imms (cellsOf v128)).bind fun v129 => if v129.length = 3 then
      (fieldAV 0 (.ip v129 0)).bind fun v130 =>
      (loadV none v130 S).bind fun v131 =>
      (indexAV 8 none t4 v131).bind fun v132 =>
      (fieldAV 1 v132).bind fun v133 =>
      (loadV none v133 S).bind fun v134 =>
      (binV .eql v134 (.str [65, 76, 80, 72, 65])).bind fun v135 =>
      condK v135
        ((binV .add t21 (.int .i64 1)).bind fun v136 =>
        F4_J2 C n0 n4 v136 t144 S)
        (F4_J2 C n0 n4 t21 t144 S)
      else none)
    (some (.inr (.exit 6, [t21], S)))

noncomputable def F4_L5 (C : CallEnv) (n0 : Nat) (t9 t13 _t17 _t21 t158 t159 : AV) (t160 : AV) (S : Store) : Option ((List AV × Store) ⊕ (Ex × List AV × Store)) :=
  let n5 := S.length
  (binV .lss t160 t159).bind fun v141 =>
  condK v141
    ((indexAV 3 none t158 t160).bind fun v142 =>
    (loadV (some 3) v142 S).bind fun v143 =>
    (imms (cellsOf v143)).bind fun v144 => if v144.length = 3 then
      (fieldAV 0 (.ip v144 0)).bind fun v145 =>
      (loadV none v145 S).bind fun v146 =>
      (binV .lss v146 (.int .i64 0)).bind fun v147 =>
      (guardK v147 false ((fieldAV 0 (.ip v144 0)).bind fun v149 =>
      some (v149, S)) (some (.und, S))).bind fun g148 =>
      (guardK v147 false ((loadV none g148.1 g148.2).bind fun v151 =>
      some (v151, g148.2)) (some (.und, g148.2))).bind fun g150 =>
      (guardK v147 false (some (t9, g150.2)) (some (.und, g150.2))).bind fun g152 =>
      (guardK v147 false ((lenV g152.1).bind fun v154 =>
      some (v154, g152.2)) (some (.und, g152.2))).bind fun g153 =>
      (guardK v147 false ((binV .geq g150.1 g153.1).bind fun v156 =>
      some (v156, g153.2)) (some (.und, g153.2))).bind fun g155 =>
      (pickV v147 (.bool true) g155.1).bind fun v157 =>
      (guardK v157 false (some (t13, g155.2)) (some (.und, g155.2))).bind fun g158 =>
      (guardK v157 false (some (t9, g158.2)) (some (.und, g158.2))).bind fun g159 =>
      (guardK v157 false ((fieldAV 0 (.ip v144 0)).bind fun v161 =>
      some (v161, g159.2)) (some (.und, g159.2))).bind fun g160 =>
      (guardK v157 false ((loadV none g160.1 g160.2).bind fun v163 =>
      some (v163, g160.2)) (some (.und, g160.2))).bind fun g162 =>
      (guardK v157 false ((indexAV 1 none g159.1 g162.1).bind fun v165 =>
      some (v165, g162.2)) (some (.und, g162.2))).bind fun g164 =>
      (guardK v157 false ((loadV none g164.1 g164.2).bind fun v167 =>
      some (v167, g164.2)) (some (.und, g164.2))).bind fun g166 =>
      (guardK v157 false ((fieldAV 1 (.ip v144 0)).bind fun v169 =>
      some (v169, g166.2)) (some (.und, g166.2))).bind fun g168 =>
      (guardK v157 false ((loadV none g168.1 g168.2).bind fun v171 =>
      some (v171, g168.2)) (some (.und, g168.2))).bind fun g170 =>
      (guardK v157 false ((fieldAV 2 (.ip v144 0)).bind fun v173 =>
      some (v173, g170.2)) (some (.und, g170.2))).bind fun g172 =>
      (guardK v157 false ((loadV none g172.1 g172.2).bind fun v175 =>
      some (v175, g172.2)) (some (.und, g172.2))).bind fun g174 =>
      (guardK v157 false ((buildV [(.int .i64 0), (.int .i64 0), (.int .i64 0)] [(0, 1, g166.1), (1, 1, g170.1), (2, 1, g174.1)]).bind fun v177 =>
      some (v177, g174.2)) (some (.und, g174.2))).bind fun g176 =>
      (guardK v157 false ((argVs [g158.1, g176.1]).bind fun v179 => (C 21 v179 g176.2).bind fun v180 =>
      some (v180.1, v180.2)) (some (.und, g176.2))).bind fun g178 =>
      (guardK v157 false ((unV .not g178.1).bind fun v182 =>
      some (v182, g178.2)) (some (.und, g178.2))).bind fun g181 =>
      (pickV v157 (.bool true) g181.1).bind fun v183 =>
      condK v183
        (some (.inr (.ret, [(.bool false)], g181.2)))
        ((binV .add t160 (.int .i64 1)).bind fun v184 =>
        (nextS n0 n5 [v184] g181.2).bind fun r => some (.inl r))
      else none)
    (some (.inr (.exit 8, [.u], S)))

noncomputable def F4 (C : CallEnv) (args : List AV) (S : Store) : Option (AV × Store) :=
  let n0 := S.length
  let t0 := args.getD 0 .u
  (argVs [t0]).bind fun v1 => (C 11 v1 S).bind fun v2 =>
  (argVs [v2.1]).bind fun v3 => (C 13 v3 v2.2).bind fun v4 =>
  (argVs [v2.1, (.int .i64 9), v4.1]).bind fun v5 => (C 12 v5 v4.2).bind fun v6 =>
  (argVs [v2.1]).bind fun v7 => (C 14 v7 v6.2).bind fun v8 =>
  (imms (cellsOf v8.1)).bind fun v9 => if v9.length = 41 then
    (lenV v6.1).bind fun v10 =>
    (argVs [v2.1, v10]).bind fun v11 => (C 20 v11 v8.2).bind fun v12 =>
    (ownV 8 (.sl [] .full) v12.2).bind fun v13 =>
    (ownV 8 (.sl [] .full) v13.2).bind fun v14 =>
    (ownV 1 (.sl [] .full) v14.2).bind fun v15 =>
    (lenV v12.1).bind fun v16 =>
    (iter (fun s => F4_L1 C n0 v6.1 (.ip v9 0) v12.1 v14.1 v15.1 v12.1 v16 (s.1.getD 0 .u) (s.1.getD 1 .u) s.2) ([v13.1, (.int .i64 0)], v15.2)).bind fun r26 => exK none
      (fun i27 => bif Nat.beq i27 0 then ((lenV v6.1).bind fun v28 =>
      (iter (fun s => F4_L2 C n0 v6.1 (.ip v9 0) v12.1 (r26.2.1.getD 0 .u) v28 (s.1.getD 0 .u) (s.1.getD 1 .u) (s.1.getD 2 .u) s.2) ([v14.1, v15.1, (.int .i64 0)], r26.2.2)).bind fun r43 => exK none
        (fun i44 => bif Nat.beq i44 2 then ((loadV (some 41) (.ip v9 0) r43.2.2).bind fun v45 =>
        (argVs [v6.1, v45]).bind fun v46 => (C 17 v46 r43.2.2).bind fun v47 =>
        (extractV v47.1 0).bind fun v48 =>
        (extractV v47.1 1).bind fun v49 =>
        (loadV (some 41) (.ip v9 0) v47.2).bind fun v50 =>
        (argVs [(r26.2.1.getD 0 .u), v50]).bind fun v51 => (C 17 v51 v47.2).bind fun v52 =>
        (extractV v52.1 0).bind fun v53 =>
        (extractV v52.1 1).bind fun v54 =>
        (loadV (some 41) (.ip v9 0) v52.2).bind fun v55 =>
        (argVs [(r43.2.1.getD 0 .u), v55]).bind fun v56 => (C 17 v56 v52.2).bind fun v57 =>
        (extractV v57.1 0).bind fun v58 =>
        (extractV v57.1 1).bind fun v59 =>
        (binV .neq v49 (.int .i64 0)).bind fun v60 =>
        (guardK v60 false (some (v54, v57.2)) (some (.und, v57.2))).bind fun g61 =>
        (guardK v60 false ((binV .neq g61.1 (.int .i64 0)).bind fun v63 =>
        some (v63, g61.2)) (some (.und, g61.2))).bind fun g62 =>
        (pickV v60 (.bool true) g62.1).bind fun v64 =>
        (guardK v64 false (some (v59, g62.2)) (some (.und, g62.2))).bind fun g65 =>
        (guardK v64 false ((binV .neq g65.1 (.int .i64 0)).bind fun v67 =>
        some (v67, g65.2)) (some (.und, g65.2))).bind fun g66 =>
        (pickV v64 (.bool true) g66.1).bind fun v68 =>
        (guardK v68 false (some (v48, g66.2)) (some (.und, g66.2))).bind fun g69 =>
        (guardK v68 false ((lenV g69.1).bind fun v71 =>
        some (v71, g69.2)) (some (.und, g69.2))).bind fun g70 =>
        (guardK v68 false (some (v53, g70.2)) (some (.und, g70.2))).bind fun g72 =>
        (guardK v68 false ((lenV g72.1).bind fun v74 =>
        some (v74, g72.2)) (some (.und, g72.2))).bind fun g73 =>
        (guardK v68 false ((binV .neq g70.1 g73.1).bind fun v76 =>
        some (v76, g73.2)) (some (.und, g73.2))).bind fun g75 =>
        (pickV v68 (.bool true) g75.1).bind fun v77 =>
        condK v77
          (finish false n0 [(.bool false)] g75.2)
          ((lenV v53).bind fun v78 =>
          (iter (fun s => F4_L3 C n0 v6.1 v12.1 (r43.2.1.getD 1 .u) v48 v58 v53 v78 (s.1.getD 0 .u) s.2) ([(.int .i64 0)], g75.2)).bind fun r123 => exK none
            (fun i124 => bif Nat.beq i124 4 then ((lenV v48).bind fun v125 =>
            (iter (fun s => F4_L4 C n0 v6.1 (r43.2.1.getD 1 .u) v48 v58 v48 v125 (s.1.getD 0 .u) (s.1.getD 1 .u) s.2) ([(.int .i64 0), (.int .i64 0)], r123.2.2)).bind fun r138 => exK none
              (fun i139 => bif Nat.beq i139 6 then ((lenV v58).bind fun v140 =>
              (iter (fun s => F4_L5 C n0 (r43.2.1.getD 1 .u) v48 v58 (r138.2.1.getD 0 .u) v58 v140 (s.1.getD 0 .u) s.2) ([(.int .i64 0)], r138.2.2)).bind fun r185 => exK none
                (fun i186 => bif Nat.beq i186 8 then ((lenV v58).bind fun v187 =>
                (binV .eql (r138.2.1.getD 0 .u) v187).bind fun v188 =>
                (guardK v188 true ((argVs []).bind fun v190 => (C 10 v190 r185.2.2).bind fun v191 =>
                some (v191.1, v191.2)) (some (.und, r185.2.2))).bind fun g189 =>
                (pickV v188 g189.1 (.bool false)).bind fun v192 =>
                finish false n0 [v192] g189.2) else (none))
                (finish false n0 [(r185.2.1.getD 0 .u)] r185.2.2) r185.1) else (none))
              (finish false n0 [.u] r138.2.2) r138.1) else (none))
            (finish false n0 [(r123.2.1.getD 0 .u)] r123.2.2) r123.1)) else (none))
        (finish false n0 [.u] r43.2.2) r43.1) else (none))
      (finish false n0 [.u] r26.2.2) r26.1
    else none

theorem c4 {ov : Over} (h : ov 4 = none) (args : List AV) (S : Store) : (Prg.mk T an ov).call 4 args S = F4 (Prg.mk T an ov).call args S :=
  ((Prg.mk T an ov).call_eq 4 args S).trans ((Prg.step_none h).trans (by kernel_rfl))

/-! ### 8 synoptic/synopticlaw16.TimelineElements -/
noncomputable def F8_J2 (_C : CallEnv) (n0 : Nat) (n1 : Nat) (t9 t32 : AV) (S : Store) : Option ((List AV × Store) ⊕ (Ex × List AV × Store)) :=
  (binV .add t32 (.int .i64 1)).bind fun v34 =>
  (nextS n0 n1 [t9, v34] S).bind fun r => some (.inl r)

noncomputable def F8_J1 (C : CallEnv) (n0 : Nat) (n1 : Nat) (t9 t11 t32 : AV) (S : Store) : Option ((List AV × Store) ⊕ (Ex × List AV × Store)) :=
  (loadV (some 8) t11 S).bind fun v30 =>
  (bsliceV 8 [cellsOf v30]).bind fun v31 =>
  (appendV 8 t9 v31 S).bind fun v32 =>
  (ownV 8 v32.1 v32.2).bind fun v33 =>
  F8_J2 C n0 n1 v33.1 t32 v33.2

noncomputable def F8_L1 (C : CallEnv) (n0 : Nat) (_t6 _t7 t8 t30 t31 : AV) (t9 t32 : AV) (S : Store) : Option ((List AV × Store) ⊕ (Ex × List AV × Store)) :=
  let n1 := S.length
  (binV .lss t32 t31).bind fun v13 =>
  condK v13
    ((indexAV 8 none t30 t32).bind fun v14 =>
    (loadV (some 8) v14 S).bind fun v15 =>
    (cells1 (cellsOf v15)).bind fun v16 => if v16.length = 8 then
      let S17 : Store := S ++ [.obj v16]
      (fieldAV 7 (.ptr S.length 0)).bind fun v18 =>
      (loadV none v18 S17).bind fun v19 =>
      (argVs [v19, t8]).bind fun v20 => (C 24 v20 S17).bind fun v21 =>
      (extractV v21.1 0).bind fun v22 =>
      (extractV v21.1 1).bind fun v23 =>
      (fieldAV 7 (.ptr S.length 0)).bind fun v24 =>
      (storeV n0 1 v24 (.sl [] .full) v21.2).bind fun S25 =>
      condK v23
        ((buildV [(.int .i64 0), (.int .i64 0)] [(0, 1, t8), (1, 1, v22)]).bind fun v26 =>
        (bsliceV 2 [cellsOf v26]).bind fun v27 =>
        (fieldAV 7 (.ptr S.length 0)).bind fun v28 =>
        (storeV n0 1 v28 v27 S25).bind fun S29 =>
        F8_J1 C n0 n1 t9 (.ptr S.length 0) t32 S29)
        (F8_J1 C n0 n1 t9 (.ptr S.length 0) t32 S25)
      else none)
    (some (.inr (.exit 0, [t9], S)))

noncomputable def F8_J3 (_C : CallEnv) (n0 : Nat) (n2 : Nat) (t18 t69 : AV) (S : Store) : Option ((List AV × Store) ⊕ (Ex × List AV × Store)) :=
  (binV .add t69 (.int .i64 1)).bind fun v60 =>
  (nextS n0 n2 [t18, v60] S).bind fun r => some (.inl r)

noncomputable def F8_L2 (C : CallEnv) (n0 : Nat) (t8 _t15 _t16 _t17 t67 t68 : AV) (t18 t69 : AV) (S : Store) : Option ((List AV × Store) ⊕ (Ex × List AV × Store)) :=
  let n2 := S.length
  (binV .lss t69 t68).bind fun v49 =>
  condK v49
    ((indexAV 3 none t67 t69).bind fun v50 =>
    (loadV (some 3) v50 S).bind fun v51 =>
    (imms (cellsOf v51)).bind fun v52 => if v52.length = 3 then
      (fieldAV 1 (.ip v52 0)).bind fun v53 =>
      (loadV none v53 S).bind fun v54 =>
      (binV .eql v54 t8).bind fun v55 =>
      condK v55
        ((loadV (some 3) (.ip v52 0) S).bind fun v56 =>
        (bsliceV 3 [cellsOf v56]).bind fun v57 =>
        (appendV 3 t18 v57 S).bind fun v58 =>
        (ownV 3 v58.1 v58.2).bind fun v59 =>
        F8_J3 C n0 n2 v59.1 t69 v59.2)
        (F8_J3 C n0 n2 t18 t69 S)
      else none)
    (some (.inr (.exit 2, [t18], S)))

noncomputable def F8 (C : CallEnv) (args : List AV) (S : Store) : Option (AV × Store) :=
  let n0 := S.length
  let t0 := args.getD 0 .u
  let t1 := args.getD 1 .u
  (argVs [t0]).bind fun v1 => (C 11 v1 S).bind fun v2 =>
  (argVs [v2.1, (.int .i64 9), (.int .i64 14000000)]).bind fun v3 => (C 12 v3 v2.2).bind fun v4 =>
  (argVs [v2.1]).bind fun v5 => (C 14 v5 v4.2).bind fun v6 =>
  (imms (cellsOf v6.1)).bind fun v7 => if v7.length = 41 then
    (argVs [t1, (.int .i64 11)]).bind fun v8 => (C 22 v8 v6.2).bind fun v9 =>
    (binV .add (.int .i64 1) v9.1).bind fun v10 =>
    (ownV 8 (.sl [] .full) v9.2).bind fun v11 =>
    (lenV v4.1).bind fun v12 =>
    (iter (fun s => F8_L1 C n0 v4.1 (.ip v7 0) v10 v4.1 v12 (s.1.getD 0 .u) (s.1.getD 1 .u) s.2) ([v11.1, (.int .i64 0)], v11.2)).bind fun r35 => exK none
      (fun i36 => bif Nat.beq i36 0 then ((loadV (some 41) (.ip v7 0) r35.2.2).bind fun v37 =>
      (argVs [v4.1, v37]).bind fun v38 => (C 17 v38 r35.2.2).bind fun v39 =>
      (extractV v39.1 0).bind fun v40 =>
      (extractV v39.1 1).bind fun v41 =>
      (loadV (some 41) (.ip v7 0) v39.2).bind fun v42 =>
      (argVs [(r35.2.1.getD 0 .u), v42]).bind fun v43 => (C 17 v43 v39.2).bind fun v44 =>
      (extractV v44.1 0).bind fun v45 =>
      (extractV v44.1 1).bind fun v46 =>
      (ownV 3 (.sl [] .full) v44.2).bind fun v47 =>
      (lenV v40).bind fun v48 =>
      (iter (fun s => F8_L2 C n0 v10 v41 v45 v46 v40 v48 (s.1.getD 0 .u) (s.1.getD 1 .u) s.2) ([v47.1, (.int .i64 0)], v47.2)).bind fun r61 => exK none
        (fun i62 => bif Nat.beq i62 2 then ((binV .eql v41 (.int .i64 0)).bind fun v63 =>
        (guardK v63 true (some (v46, r61.2.2)) (some (.und, r61.2.2))).bind fun g64 =>
        (guardK v63 true ((binV .eql g64.1 (.int .i64 0)).bind fun v66 =>
        some (v66, g64.2)) (some (.und, g64.2))).bind fun g65 =>
        (pickV v63 g65.1 (.bool false)).bind fun v67 =>
        (guardK v67 true (some (v45, g65.2)) (some (.und, g65.2))).bind fun g68 =>
        (guardK v67 true (some ((r61.2.1.getD 0 .u), g68.2)) (some (.und, g68.2))).bind fun g69 =>
        (guardK v67 true ((argVs [g68.1, g69.1]).bind fun v71 => (C 19 v71 g69.2).bind fun v72 =>
        some (v72.1, v72.2)) (some (.und, g69.2))).bind fun g70 =>
        (pickV v67 g70.1 (.bool false)).bind fun v73 =>
        (guardK v73 true ((argVs []).bind fun v75 => (C 10 v75 g70.2).bind fun v76 =>
        some (v76.1, v76.2)) (some (.und, g70.2))).bind fun g74 =>
        (pickV v73 g74.1 (.bool false)).bind fun v77 =>
        finish false n0 [v77] g74.2) else (none))
        (finish false n0 [.u] r61.2.2) r61.1) else (none))
      (finish false n0 [.u] r35.2.2) r35.1
    else none

theorem c8 {ov : Over} (h : ov 8 = none) (args : List AV) (S : Store) : (Prg.mk T an ov).call 8 args S = F8 (Prg.mk T an ov).call args S :=
  ((Prg.mk T an ov).call_eq 8 args S).trans ((Prg.step_none h).trans (by kernel_rfl))

/-! ### 12 synoptic/synopticdata.Series -/
noncomputable def F12_J1 (_C : CallEnv) (n0 : Nat) (n2 : Nat) (t12 : AV) (S : Store) : Option ((List AV × Store) ⊕ (Ex × List AV × Store)) :=
  (binV .add t12 (.int .i64 1)).bind fun v25 =>
  (nextS n0 n2 [v25] S).bind fun r => some (.inl r)

noncomputable def F12_J2 (C : CallEnv) (n0 : Nat) (n2 : Nat) (t11 t12 t13 : AV) (S : Store) : Option ((List AV × Store) ⊕ (Ex × List AV × Store)) :=
  (fieldAV 7 t11).bind fun v36 =>
  (loadV none v36 S).bind fun v37 =>
  (argVs [t12, t13]).bind fun v38 => ((C 30 v38 S).bind (still S)).bind fun v39 =>
  (buildV [(.int .i64 0), (.int .i64 0)] [(0, 1, t12), (1, 1, v39)]).bind fun v40 =>
  (bsliceV 2 [cellsOf v40]).bind fun v41 =>
  (appendV 2 v37 v41 S).bind fun v42 =>
  (fieldAV 7 t11).bind fun v43 =>
  (storeV n0 1 v43 v42.1 v42.2).bind fun S44 =>
  F12_J1 C n0 n2 t12 S44

noncomputable def F12_L2 (C : CallEnv) (n0 : Nat) (t0 _t7 t8 _t9 _t10 t11 : AV) (t12 : AV) (S : Store) : Option ((List AV × Store) ⊕ (Ex × List AV × Store)) :=
  let n2 := S.length
  (binV .leq t12 (.int .i64 11)).bind fun v21 =>
  condK v21
    ((argVs [t0, (.int .i64 4)]).bind fun v22 => (C 15 v22 S).bind fun v23 =>
    (binV .eql v23.1 (.int .i64 3)).bind fun v24 =>
    condK v24
      (F12_J1 C n0 n2 t12 v23.2)
      ((indexAV 1 (some 12) t8 t12).bind fun v26 =>
      (loadV none v26 v23.2).bind fun v27 =>
      (argVs [t0, (.int .i64 5)]).bind fun v28 => (C 15 v28 v23.2).bind fun v29 =>
      (binV .eql v29.1 (.int .i64 0)).bind fun v30 =>
      condK v30
        ((argVs [t0, (.int .i64 (-25)), (.int .i64 25)]).bind fun v31 => (C 23 v31 v29.2).bind fun v32 =>
        (binV .add v27 v32.1).bind fun v33 =>
        (indexAV 1 (some 12) t8 t12).bind fun v34 =>
        (storeV n0 1 v34 v33 v32.2).bind fun S35 =>
        F12_J2 C n0 n2 t11 t12 v33 S35)
        ((binV .eql v29.1 (.int .i64 1)).bind fun v45 =>
        condK v45
          ((argVs [t0, (.int .i64 (-120)), (.int .i64 120)]).bind fun v46 => (C 23 v46 v29.2).bind fun v47 =>
          (binV .add v27 v47.1).bind fun v48 =>
          F12_J2 C n0 n2 t11 t12 v48 v47.2)
          ((binV .eql v29.1 (.int .i64 2)).bind fun v49 =>
          condK v49
            ((bsliceV 1 [cellsOf (.int .i64 10), cellsOf (.int .i64 (-10)), cellsOf (.int .i64 20), cellsOf (.int .i64 60), cellsOf (.int .i64 (-60)), cellsOf (.int .i64 100)]).bind fun v50 =>
            (argVs [t0, v50]).bind fun v51 => (C 29 v51 v29.2).bind fun v52 =>
            (binV .add v27 v52.1).bind fun v53 =>
            (indexAV 1 (some 12) t8 t12).bind fun v54 =>
            (storeV n0 1 v54 v53 v52.2).bind fun S55 =>
            F12_J2 C n0 n2 t11 t12 v53 S55)
            (F12_J2 C n0 n2 t11 t12 v27 v29.2)))))
    (some (.inr (.exit 2, [], S)))

noncomputable def F12_L1 (C : CallEnv) (n0 : Nat) (t0 t8 : AV) (t7 t9 t10 : AV) (S : Store) : Option ((List AV × Store) ⊕ (Ex × List AV × Store)) :=
  let n1 := S.length
  (binV .gtr t10 (.int .i64 0)).bind fun v10 =>
  condK v10
    ((argVs [t0, (.int .i64 1), (.int .i64 90)]).bind fun v11 => (C 23 v11 S).bind fun v12 =>
    (binV .add t9 v12.1).bind fun v13 =>
    (bsliceV 1 [cellsOf (.str [65, 76, 80, 72, 65]), cellsOf (.str [65, 76, 80, 72, 65]), cellsOf (.str [66, 82, 65, 86, 79])]).bind fun v14 =>
    (argVs [t0, v14]).bind fun v15 => (C 28 v15 v12.2).bind fun v16 =>
    (buildV [(.int .i64 0), (.str []), (.int .i64 0), (.int .i64 0), (.int .i64 0), (.int .i64 0), (.int .i64 0), (.sl [] .full)] [(0, 1, (.int .i64 1)), (1, 1, v16.1), (2, 1, v13)]).bind fun v17 =>
    (ownCellV 2 7 v17 v16.2).bind fun v18 =>
    (cells1 (cellsOf v18.1)).bind fun v19 => if v19.length = 8 then
      let S20 : Store := v18.2 ++ [.obj v19]
      (iter (fun s => F12_L2 C n0 t0 t7 t8 v13 t10 (.ptr v18.2.length 0) (s.1.getD 0 .u) s.2) ([(.int .i64 1)], S20)).bind fun r56 => exK none
        (fun i57 => bif Nat.beq i57 2 then ((loadV (some 8) (.ptr v18.2.length 0) r56.2.2).bind fun v58 =>
        (bsliceV 8 [cellsOf v58]).bind fun v59 =>
        (appendV 8 t7 v59 r56.2.2).bind fun v60 =>
        (ownV 8 v60.1 v60.2).bind fun v61 =>
        (binV .sub t10 (.int .i64 1)).bind fun v62 =>
        (nextS n0 n1 [v61.1, v13, v62] v61.2).bind fun r => some (.inl r)) else (bif Nat.beq i57 1 then ((binV .sub t10 (.int .i64 1)).bind fun v63 =>
        (nextS n0 n1 [t7, v13, v63] r56.2.2).bind fun r => some (.inl r)) else (some (.inr (.exit i57, [t7], r56.2.2)))))
        (some (.inr (.ret, [t7], r56.2.2))) r56.1
      else none)
    (some (.inr (.exit 0, [t7], S)))

noncomputable def F12 (C : CallEnv) (args : List AV) (S : Store) : Option (AV × Store) :=
  let n0 := S.length
  let t0 := args.getD 0 .u
  let t1 := args.getD 1 .u
  let t2 := args.getD 2 .u
  (ownV 8 (.sl [] .full) S).bind fun v1 =>
  (buildV [(.int .i64 0), (.int .i64 0), (.int .i64 0), (.int .i64 0), (.int .i64 0), (.int .i64 0), (.int .i64 0), (.int .i64 0), (.int .i64 0), (.int .i64 0), (.int .i64 0), (.int .i64 0)] [(0, 1, (.int .i64 0)), (1, 1, (.int .i64 10130)), (2, 1, (.int .i64 2850)), (3, 1, (.int .i64 2800)), (4, 1, (.int .i64 0)), (5, 1, (.int .i64 50)), (6, 1, (.int .i64 1460)), (7, 1, (.int .i64 2780)), (8, 1, (.int .i64 3010)), (9, 1, (.int .i64 2680)), (10, 1, (.int .i64 5570)), (11, 1, (.int .i64 2520))]).bind fun v2 =>
  (cells1 (cellsOf v2)).bind fun v3 => if v3.length = 12 then
    let S4 : Store := v1.2 ++ [.obj v3]
    (minmaxV false [(.int .i64 52589999), t2]).bind fun v5 =>
    (minmaxV true [(.int .i64 0), v5]).bind fun v6 =>
    (binV .add t1 (.int .i64 1)).bind fun v7 =>
    (argVs [t0, v7]).bind fun v8 => (C 15 v8 S4).bind fun v9 =>
    (iter (fun s => F12_L1 C n0 t0 (.ptr v1.2.length 0) (s.1.getD 0 .u) (s.1.getD 1 .u) (s.1.getD 2 .u) s.2) ([v1.1, v6, v9.1], v9.2)).bind fun r64 => exK none
      (fun i65 => bif Nat.beq i65 0 then (finish false n0 [(r64.2.1.getD 0 .u)] r64.2.2) else (none))
      (finish false n0 [.u] r64.2.2) r64.1
    else none

theorem c12 {ov : Over} (h : ov 12 = none) (args : List AV) (S : Store) : (Prg.mk T an ov).call 12 args S = F12 (Prg.mk T an ov).call args S :=
  ((Prg.mk T an ov).call_eq 12 args S).trans ((Prg.step_none h).trans (by kernel_rfl))

/-! ### 16 synoptic/synopticdata.Bent -/
noncomputable def F16_J1 (_C : CallEnv) (n0 : Nat) (t3 t4 : AV) (S : Store) : Option (AV × Store) :=
  (loadV (some 8) t3 S).bind fun v17 =>
  (freezeV v17 S).bind fun v18 =>
  (storeV n0 8 t4 v18.1 v18.2).bind fun S19 =>
  ((loadV (some 8) t4 S19).bind fun v20 => (some []).bind fun v22 => some (v20 :: v22)).bind fun v21 => finish false n0 v21 S19

noncomputable def F16 (C : CallEnv) (args : List AV) (S : Store) : Option (AV × Store) :=
  let n0 := S.length
  let t0 := args.getD 0 .u
  let t1 := args.getD 1 .u
  (cells1 (cellsOf t1)).bind fun v1 =>
  let S2 : Store := S ++ [.obj v1]
  let S3 : Store := S2 ++ [.obj [(.int .i64 0), (.str []), (.int .i64 0), (.int .i64 0), (.int .i64 0), (.int .i64 0), (.int .i64 0), (.sl [] .full)]]
  (bsliceV 2 []).bind fun v4 =>
  (fieldAV 7 (.ptr S.length 0)).bind fun v5 =>
  (loadV none v5 S3).bind fun v6 =>
  (appendMV 2 v4 v6 S3).bind fun v7 =>
  (fieldAV 7 (.ptr S.length 0)).bind fun v8 =>
  (storeV n0 1 v8 v7.1 v7.2).bind fun S9 =>
  (argVs [t0, (.int .i64 8)]).bind fun v10 => (C 15 v10 S9).bind fun v11 =>
  (binV .eql v11.1 (.int .i64 0)).bind fun v12 =>
  condK v12
    ((argVs [t0, (.int .i64 (-1)), (.int .i64 4)]).bind fun v13 => (C 23 v13 v11.2).bind fun v14 =>
    (fieldAV 0 (.ptr S.length 0)).bind fun v15 =>
    (storeV n0 1 v15 v14.1 v14.2).bind fun S16 =>
    F16_J1 C n0 (.ptr S.length 0) (.ptr S2.length 0) S16)
    ((binV .eql v11.1 (.int .i64 1)).bind fun v23 =>
    condK v23
      ((bsliceV 1 [cellsOf (.str []), cellsOf (.str [65, 76, 80, 72]), cellsOf (.str [97, 108, 112, 104, 97]), cellsOf (.str [65, 76, 80, 72, 65, 49]), cellsOf (.str [65, 76, 32, 80, 72]), cellsOf (.str [65, 76, 80, 72, 65])]).bind fun v24 =>
      (argVs [t0, v24]).bind fun v25 => (C 28 v25 v11.2).bind fun v26 =>
      (fieldAV 1 (.ptr S.length 0)).bind fun v27 =>
      (storeV n0 1 v27 v26.1 v26.2).bind fun S28 =>
      F16_J1 C n0 (.ptr S.length 0) (.ptr S2.length 0) S28)
      ((binV .eql v11.1 (.int .i64 2)).bind fun v29 =>
      condK v29
        ((bsliceV 1 [cellsOf (.int .i64 (-1)), cellsOf (.int .i64 52596000), cellsOf (.int .i64 0)]).bind fun v30 =>
        (argVs [t0, v30]).bind fun v31 => (C 29 v31 v11.2).bind fun v32 =>
        (fieldAV 2 (.ptr S.length 0)).bind fun v33 =>
        (storeV n0 1 v33 v32.1 v32.2).bind fun S34 =>
        F16_J1 C n0 (.ptr S.length 0) (.ptr S2.length 0) S34)
        ((binV .eql v11.1 (.int .i64 3)).bind fun v35 =>
        condK v35
          ((argVs [t0]).bind fun v36 => (C 32 v36 v11.2).bind fun v37 =>
          (fieldAV 3 (.ptr S.length 0)).bind fun v38 =>
          (storeV n0 4 v38 v37.1 v37.2).bind fun S39 =>
          F16_J1 C n0 (.ptr S.length 0) (.ptr S2.length 0) S39)
          ((binV .eql v11.1 (.int .i64 4)).bind fun v40 =>
          condK v40
            ((argVs [t0, (.int .i64 (-1)), (.int .i64 20)]).bind fun v41 => (C 23 v41 v11.2).bind fun v42 =>
            (argVs [t0, (.int .i64 841)]).bind fun v43 => (C 15 v43 v42.2).bind fun v44 =>
            (argVs [t0, (.int .i64 200)]).bind fun v45 => (C 15 v45 v44.2).bind fun v46 =>
            (buildV [(.int .i64 0), (.int .i64 0), (.int .i64 0), (.int .i64 0)] [(0, 1, v42.1), (1, 1, v44.1), (2, 1, v46.1)]).bind fun v47 =>
            (fieldAV 3 (.ptr S.length 0)).bind fun v48 =>
            (storeV n0 4 v48 v47 v46.2).bind fun S49 =>
            F16_J1 C n0 (.ptr S.length 0) (.ptr S2.length 0) S49)
            ((binV .eql v11.1 (.int .i64 5)).bind fun v50 =>
            condK v50
              ((fieldAV 7 (.ptr S.length 0)).bind fun v51 =>
              (loadRV none v51 (.ptr S.length 0) v11.2).bind fun v52 =>
              (argVs [t0, (.int .i64 0), (.int .i64 12)]).bind fun v53 => ((C 23 v53 v11.2).bind (onlyV v53 [(.ptr S.length 0)] v11.2)).bind fun v54 =>
              (argVs [t0, (.int .i64 9000)]).bind fun v55 => ((C 15 v55 v54.2).bind (onlyV v55 [(.ptr S.length 0)] v54.2)).bind fun v56 =>
              (buildV [(.int .i64 0), (.int .i64 0)] [(0, 1, v54.1), (1, 1, v56.1)]).bind fun v57 =>
              (bsliceV 2 [cellsOf v57]).bind fun v58 =>
              (appendMV 2 v52 v58 v56.2).bind fun v59 =>
              (fieldAV 7 (.ptr S.length 0)).bind fun v60 =>
              (storeV n0 1 v60 v59.1 v59.2).bind fun S61 =>
              F16_J1 C n0 (.ptr S.length 0) (.ptr S2.length 0) S61)
              ((binV .eql v11.1 (.int .i64 6)).bind fun v62 =>
              condK v62
                ((fieldAV 7 (.ptr S.length 0)).bind fun v63 =>
                (loadV none v63 v11.2).bind fun v64 =>
                (lenV v64).bind fun v65 =>
                (binV .gtr v65 (.int .i64 0)).bind fun v66 =>
                condK v66
                  ((fieldAV 7 (.ptr S.length 0)).bind fun v67 =>
                  (loadRV none v67 (.ptr S.length 0) v11.2).bind fun v68 =>
                  (fieldAV 7 (.ptr S.length 0)).bind fun v69 =>
                  (loadV none v69 v11.2).bind fun v70 =>
                  (lenV v70).bind fun v71 =>
                  (argVs [t0, v71]).bind fun v72 => ((C 15 v72 v11.2).bind (onlyV v72 [(.ptr S.length 0)] v11.2)).bind fun v73 =>
                  (bsliceV 1 [cellsOf (.int .i64 (-1001)), cellsOf (.int .i64 0), cellsOf (.int .i64 99999)]).bind fun v74 =>
                  (argVs [t0, v74]).bind fun v75 => ((C 29 v75 v73.2).bind (onlyV v75 [(.ptr S.length 0)] v73.2)).bind fun v76 =>
                  (indexAV 2 none v68 v73.1).bind fun v77 =>
                  (fieldAV 1 v77).bind fun v78 =>
                  (storeV n0 1 v78 v76.1 v76.2).bind fun S79 =>
                  F16_J1 C n0 (.ptr S.length 0) (.ptr S2.length 0) S79)
                  (F16_J1 C n0 (.ptr S.length 0) (.ptr S2.length 0) v11.2))
                ((fieldAV 3 (.ptr S.length 0)).bind fun v80 =>
                (fieldAV 3 v80).bind fun v81 =>
                (loadV none v81 v11.2).bind fun v82 =>
                (binV .add v82 (.int .i64 1)).bind fun v83 =>
                (fieldAV 3 (.ptr S.length 0)).bind fun v84 =>
                (fieldAV 3 v84).bind fun v85 =>
                (storeV n0 1 v85 v83 v11.2).bind fun S86 =>
                F16_J1 C n0 (.ptr S.length 0) (.ptr S2.length 0) S86)))))))

theorem c16 {ov : Over} (h : ov 16 = none) (args : List AV) (S : Store) : (Prg.mk T an ov).call 16 args S = F16 (Prg.mk T an ov).call args S :=
  ((Prg.mk T an ov).call_eq 16 args S).trans ((Prg.step_none h).trans (by kernel_rfl))

/-! ### 20 (*synoptic/synoptickeep.Src).Order -/
noncomputable def F20_L1 (C : CallEnv) (n0 : Nat) (t0 t1 : AV) (t5 t6 : AV) (S : Store) : Option ((List AV × Store) ⊕ (Ex × List AV × Store)) :=
  let n1 := S.length
  (binV .lss t6 t1).bind fun v1 =>
  condK v1
    ((lenV t5).bind fun v2 =>
    (binV .add v2 (.int .i64 1)).bind fun v3 =>
    (argVs [t0, v3]).bind fun v4 => (C 15 v4 S).bind fun v5 =>
    (bsliceV 1 [cellsOf t6]).bind fun v6 =>
    (sliceV 1 t5 (some v5.1) none none).bind fun v7 =>
    (appendV 1 v6 v7 v5.2).bind fun v8 =>
    (sliceV 1 t5 none (some v5.1) (some v5.1)).bind fun v9 =>
    (appendV 1 v9 v8.1 v8.2).bind fun v10 =>
    (binV .add t6 (.int .i64 1)).bind fun v11 =>
    (nextS n0 n1 [v10.1, v11] v10.2).bind fun r => some (.inl r))
    (some (.inr (.exit 0, [t5], S)))

noncomputable def F20 (C : CallEnv) (args : List AV) (S : Store) : Option (AV × Store) :=
  let n0 := S.length
  let t0 := args.getD 0 .u
  let t1 := args.getD 1 .u
  (iter (fun s => F20_L1 C n0 t0 t1 (s.1.getD 0 .u) (s.1.getD 1 .u) s.2) ([(.sl [] .full), (.int .i64 0)], S)).bind fun r12 => exK none
    (fun i13 => bif Nat.beq i13 0 then (finish false n0 [(r12.2.1.getD 0 .u)] r12.2.2) else (none))
    (finish false n0 [.u] r12.2.2) r12.1

theorem c20 {ov : Over} (h : ov 20 = none) (args : List AV) (S : Store) : (Prg.mk T an ov).call 20 args S = F20 (Prg.mk T an ov).call args S :=
  ((Prg.mk T an ov).call_eq 20 args S).trans ((Prg.step_none h).trans (by kernel_rfl))

/-! ### 24 synoptic/synopticref04.Find -/
noncomputable def F24_L1 (_C : CallEnv) (n0 : Nat) (t0 t1 : AV) (t6 : AV) (S : Store) : Option ((List AV × Store) ⊕ (Ex × List AV × Store)) :=
  let n1 := S.length
  (lenV t0).bind fun v1 =>
  (binV .lss t6 v1).bind fun v2 =>
  condK v2
    ((indexAV 2 none t0 t6).bind fun v3 =>
    (fieldAV 0 v3).bind fun v4 =>
    (loadV none v4 S).bind fun v5 =>
    (binV .eql v5 t1).bind fun v6 =>
    condK v6
      ((indexAV 2 none t0 t6).bind fun v7 =>
      (fieldAV 1 v7).bind fun v8 =>
      (loadV none v8 S).bind fun v9 =>
      some (.inr (.ret, [v9, (.bool true)], S)))
      ((binV .add t6 (.int .i64 1)).bind fun v10 =>
      (nextS n0 n1 [v10] S).bind fun r => some (.inl r)))
    (some (.inr (.exit 0, [.u, .u], S)))

noncomputable def F24 (C : CallEnv) (args : List AV) (S : Store) : Option (AV × Store) :=
  let n0 := S.length
  let t0 := args.getD 0 .u
  let t1 := args.getD 1 .u
  (iter (fun s => F24_L1 C n0 t0 t1 (s.1.getD 0 .u) s.2) ([(.int .i64 0)], S)).bind fun r11 => exK none
    (fun i12 => bif Nat.beq i12 0 then (finish false n0 [(.int .i64 0), (.bool false)] r11.2.2) else (none))
    (finish false n0 [(r11.2.1.getD 0 .u), (r11.2.1.getD 1 .u)] r11.2.2) r11.1

theorem c24 {ov : Over} (h : ov 24 = none) (args : List AV) (S : Store) : (Prg.mk T an ov).call 24 args S = F24 (Prg.mk T an ov).call args S :=
  ((Prg.mk T an ov).call_eq 24 args S).trans ((Prg.step_none h).trans (by kernel_rfl))

/-! ### 28 (*synoptic/synoptickeep.Src).Text -/
noncomputable def F28 (C : CallEnv) (args : List AV) (S : Store) : Option (AV × Store) :=
  let n0 := S.length
  let t0 := args.getD 0 .u
  let t1 := args.getD 1 .u
  (lenV t1).bind fun v1 =>
  (argVs [t0, v1]).bind fun v2 => (C 15 v2 S).bind fun v3 =>
  (indexAV 1 none t1 v3.1).bind fun v4 =>
  (loadV none v4 v3.2).bind fun v5 =>
  finish false n0 [v5] v3.2

theorem c28 {ov : Over} (h : ov 28 = none) (args : List AV) (S : Store) : (Prg.mk T an ov).call 28 args S = F28 (Prg.mk T an ov).call args S :=
  ((Prg.mk T an ov).call_eq 28 args S).trans ((Prg.step_none h).trans (by kernel_rfl))

/-! ### 32 synoptic/synopticdata.Place -/
noncomputable def F32_J2 (C : CallEnv) (n0 : Nat) (t2 t3 : AV) (S : Store) : Option (AV × Store) :=
  (fieldAV 1 t3).bind fun v36 =>
  (loadV none v36 S).bind fun v37 =>
  (binV .sub (.int .i64 840) v37).bind fun v38 =>
  (fieldAV 2 t3).bind fun v39 =>
  (loadV none v39 S).bind fun v40 =>
  (binV .sub v38 v40).bind fun v41 =>
  (fieldAV 3 t3).bind fun v42 =>
  (storeV n0 1 v42 v41 S).bind fun S43 =>
  (loadV (some 4) t3 S43).bind fun v44 =>
  (argVs [v44]).bind fun v45 => (C 46 v45 S43).bind fun v46 =>
  (extractV v46.1 0).bind fun v47 =>
  (extractV v46.1 1).bind fun _v48 =>
  (imms (cellsOf v47)).bind fun v49 => if v49.length = 4 then
    (loadV (some 4) (.ip v49 0) v46.2).bind fun v50 =>
    (storeV n0 4 t2 v50 v46.2).bind fun S51 =>
    ((loadV (some 4) t2 S51).bind fun v52 => (some []).bind fun v54 => some (v52 :: v54)).bind fun v53 => finish false n0 v53 S51
    else none

noncomputable def F32_J1 (C : CallEnv) (n0 : Nat) (t0 t2 t3 : AV) (S : Store) : Option (AV × Store) :=
  (fieldAV 1 t3).bind fun v17 =>
  (loadV none v17 S).bind fun v18 =>
  (binV .sub (.int .i64 840) v18).bind fun v19 =>
  (binV .add v19 (.int .i64 1)).bind fun v20 =>
  (argVs [t0, v20]).bind fun v21 => (C 15 v21 S).bind fun v22 =>
  (fieldAV 2 t3).bind fun v23 =>
  (storeV n0 1 v23 v22.1 v22.2).bind fun S24 =>
  (argVs [t0, (.int .i64 3)]).bind fun v25 => (C 15 v25 S24).bind fun v26 =>
  (binV .eql v26.1 (.int .i64 0)).bind fun v27 =>
  condK v27
    ((fieldAV 2 t3).bind fun v28 =>
    (loadV none v28 v26.2).bind fun v29 =>
    (fieldAV 2 t3).bind fun v30 =>
    (loadV none v30 v26.2).bind fun v31 =>
    (binV .rem v31 (.int .i64 105)).bind fun v32 =>
    (binV .sub v29 v32).bind fun v33 =>
    (fieldAV 2 t3).bind fun v34 =>
    (storeV n0 1 v34 v33 v26.2).bind fun S35 =>
    F32_J2 C n0 t2 t3 S35)
    (F32_J2 C n0 t2 t3 v26.2)

noncomputable def F32 (C : CallEnv) (args : List AV) (S : Store) : Option (AV × Store) :=
  let n0 := S.length
  let t0 := args.getD 0 .u
  let S1 : Store := S ++ [.obj [(.int .i64 0), (.int .i64 0), (.int .i64 0), (.int .i64 0)]]
  (argVs [t0, (.int .i64 20)]).bind fun v2 => (C 15 v2 S1).bind fun v3 =>
  (argVs [t0, (.int .i64 841)]).bind fun v4 => (C 15 v4 v3.2).bind fun v5 =>
  (buildV [(.int .i64 0), (.int .i64 0), (.int .i64 0), (.int .i64 0)] [(0, 1, v3.1), (1, 1, v5.1)]).bind fun v6 =>
  (cells1 (cellsOf v6)).bind fun v7 => if v7.length = 4 then
    let S8 : Store := v5.2 ++ [.obj v7]
    (argVs [t0, (.int .i64 4)]).bind fun v9 => (C 15 v9 S8).bind fun v10 =>
    (binV .eql v10.1 (.int .i64 0)).bind fun v11 =>
    condK v11
      ((argVs [t0, (.int .i64 9)]).bind fun v12 => (C 15 v12 v10.2).bind fun v13 =>
      (binV .mul (.int .i64 105) v13.1).bind fun v14 =>
      (fieldAV 1 (.ptr v5.2.length 0)).bind fun v15 =>
      (storeV n0 1 v15 v14 v13.2).bind fun S16 =>
      F32_J1 C n0 t0 (.ptr S.length 0) (.ptr v5.2.length 0) S16)
      ((binV .eql v10.1 (.int .i64 1)).bind fun v55 =>
      condK v55
        ((argVs [t0, (.int .i64 5)]).bind fun v56 => (C 15 v56 v10.2).bind fun v57 =>
        (binV .mul (.int .i64 210) v57.1).bind fun v58 =>
        (fieldAV 1 (.ptr v5.2.length 0)).bind fun v59 =>
        (storeV n0 1 v59 v58 v57.2).bind fun S60 =>
        F32_J1 C n0 t0 (.ptr S.length 0) (.ptr v5.2.length 0) S60)
        (F32_J1 C n0 t0 (.ptr S.length 0) (.ptr v5.2.length 0) v10.2))
    else none

theorem c32 {ov : Over} (h : ov 32 = none) (args : List AV) (S : Store) : (Prg.mk T an ov).call 32 args S = F32 (Prg.mk T an ov).call args S :=
  ((Prg.mk T an ov).call_eq 32 args S).trans ((Prg.step_none h).trans (by kernel_rfl))

/-! ### 36 synoptic/timeline.spike -/
noncomputable def F36 (C : CallEnv) (args : List AV) (S : Store) : Option (AV × Store) :=
  let n0 := S.length
  let t0 := args.getD 0 .u
  let t1 := args.getD 1 .u
  let t2 := args.getD 2 .u
  let t3 := args.getD 3 .u
  (imms (cellsOf t0)).bind fun v1 =>
  (imms (cellsOf t1)).bind fun v2 =>
  (imms (cellsOf t2)).bind fun v3 =>
  (fieldAV 2 (.ip v2 0)).bind fun v4 =>
  (loadV none v4 S).bind fun v5 =>
  (fieldAV 2 (.ip v1 0)).bind fun v6 =>
  (loadV none v6 S).bind fun v7 =>
  (binV .sub v5 v7).bind fun v8 =>
  (binV .gtr v8 t3).bind fun v9 =>
  (guardK v9 true ((fieldAV 2 (.ip v2 0)).bind fun v11 =>
  some (v11, S)) (some (.und, S))).bind fun g10 =>
  (guardK v9 true ((loadV none g10.1 g10.2).bind fun v13 =>
  some (v13, g10.2)) (some (.und, g10.2))).bind fun g12 =>
  (guardK v9 true ((fieldAV 2 (.ip v3 0)).bind fun v15 =>
  some (v15, g12.2)) (some (.und, g12.2))).bind fun g14 =>
  (guardK v9 true ((loadV none g14.1 g14.2).bind fun v17 =>
  some (v17, g14.2)) (some (.und, g14.2))).bind fun g16 =>
  (guardK v9 true ((binV .sub g12.1 g16.1).bind fun v19 =>
  some (v19, g16.2)) (some (.und, g16.2))).bind fun g18 =>
  (guardK v9 true (some (t3, g18.2)) (some (.und, g18.2))).bind fun g20 =>
  (guardK v9 true ((binV .gtr g18.1 g20.1).bind fun v22 =>
  some (v22, g20.2)) (some (.und, g20.2))).bind fun g21 =>
  (pickV v9 g21.1 (.bool false)).bind fun v23 =>
  (fieldAV 2 (.ip v1 0)).bind fun v24 =>
  (loadV none v24 g21.2).bind fun v25 =>
  (fieldAV 2 (.ip v2 0)).bind fun v26 =>
  (loadV none v26 g21.2).bind fun v27 =>
  (binV .sub v25 v27).bind fun v28 =>
  (binV .gtr v28 t3).bind fun v29 =>
  (guardK v29 true ((fieldAV 2 (.ip v3 0)).bind fun v31 =>
  some (v31, g21.2)) (some (.und, g21.2))).bind fun g30 =>
  (guardK v29 true ((loadV none g30.1 g30.2).bind fun v33 =>
  some (v33, g30.2)) (some (.und, g30.2))).bind fun g32 =>
  (guardK v29 true ((fieldAV 2 (.ip v2 0)).bind fun v35 =>
  some (v35, g32.2)) (some (.und, g32.2))).bind fun g34 =>
  (guardK v29 true ((loadV none g34.1 g34.2).bind fun v37 =>
  some (v37, g34.2)) (some (.und, g34.2))).bind fun g36 =>
  (guardK v29 true ((binV .sub g32.1 g36.1).bind fun v39 =>
  some (v39, g36.2)) (some (.und, g36.2))).bind fun g38 =>
  (guardK v29 true (some (t3, g38.2)) (some (.und, g38.2))).bind fun g40 =>
  (guardK v29 true ((binV .gtr g38.1 g40.1).bind fun v42 =>
  some (v42, g40.2)) (some (.und, g40.2))).bind fun g41 =>
  (pickV v29 g41.1 (.bool false)).bind fun v43 =>
  (guardK v23 false (some (v43, g41.2)) (some (.und, g41.2))).bind fun g44 =>
  (pickV v23 (.bool true) g44.1).bind fun v45 =>
  (guardK v45 true ((loadV (some 3) (.ip v1 0) g44.2).bind fun v47 =>
  some (v47, g44.2)) (some (.und, g44.2))).bind fun g46 =>
  (guardK v45 true ((loadV (some 3) (.ip v3 0) g46.2).bind fun v49 =>
  some (v49, g46.2)) (some (.und, g46.2))).bind fun g48 =>
  (guardK v45 true ((argVs [g46.1, g48.1]).bind fun v51 => (C 54 v51 g48.2).bind fun v52 =>
  some (v52.1, v52.2)) (some (.und, g48.2))).bind fun g50 =>
  (guardK v45 true (some (t3, g50.2)) (some (.und, g50.2))).bind fun g53 =>
  (guardK v45 true ((binV .leq g50.1 g53.1).bind fun v55 =>
  some (v55, g53.2)) (some (.und, g53.2))).bind fun g54 =>
  (pickV v45 g54.1 (.bool false)).bind fun v56 =>
  finish false n0 [v56] g54.2

theorem c36 {ov : Over} (h : ov 36 = none) (args : List AV) (S : Store) : (Prg.mk T an ov).call 36 args S = F36 (Prg.mk T an ov).call args S :=
  ((Prg.mk T an ov).call_eq 36 args S).trans ((Prg.step_none h).trans (by kernel_rfl))

/-! ### 41 synoptic/synopticref01.In -/
noncomputable def F41 (_C : CallEnv) (args : List AV) (S : Store) : Option (AV × Store) :=
  let n0 := S.length
  let t0 := args.getD 0 .u
  (binV .geq t0 (.int .i64 0)).bind fun v1 =>
  (guardK v1 true (some (t0, S)) (some (.und, S))).bind fun g2 =>
  (guardK v1 true ((binV .leq g2.1 (.int .i64 52595999)).bind fun v4 =>
  some (v4, g2.2)) (some (.und, g2.2))).bind fun g3 =>
  (pickV v1 g3.1 (.bool false)).bind fun v5 =>
  finish false n0 [v5] g3.2

theorem c41 {ov : Over} (h : ov 41 = none) (args : List AV) (S : Store) : (Prg.mk T an ov).call 41 args S = F41 (Prg.mk T an ov).call args S :=
  ((Prg.mk T an ov).call_eq 41 args S).trans ((Prg.step_none h).trans (by kernel_rfl))

/-! ### 45 synoptic/synopticref04.in -/
noncomputable def F45 (C : CallEnv) (args : List AV) (S : Store) : Option (AV × Store) :=
  let n0 := S.length
  let t0 := args.getD 0 .u
  (imms (cellsOf t0)).bind fun v1 =>
  (fieldAV 0 (.ip v1 0)).bind fun v2 =>
  (loadV none v2 S).bind fun v3 =>
  (argVs [v3]).bind fun v4 => (C 44 v4 S).bind fun v5 =>
  (extractV v5.1 0).bind fun v6 =>
  (extractV v5.1 1).bind fun _v7 =>
  (imms (cellsOf v6)).bind fun v8 => if v8.length = 4 then
    (fieldAV 1 (.ip v1 0)).bind fun v9 =>
    (loadV none v9 v5.2).bind fun v10 =>
    (fieldAV 1 (.ip v8 0)).bind fun v11 =>
    (loadV none v11 v5.2).bind fun v12 =>
    (binV .geq v10 v12).bind fun v13 =>
    (guardK v13 true ((fieldAV 1 (.ip v1 0)).bind fun v15 =>
    some (v15, v5.2)) (some (.und, v5.2))).bind fun g14 =>
    (guardK v13 true ((loadV none g14.1 g14.2).bind fun v17 =>
    some (v17, g14.2)) (some (.und, g14.2))).bind fun g16 =>
    (guardK v13 true ((fieldAV 2 (.ip v8 0)).bind fun v19 =>
    some (v19, g16.2)) (some (.und, g16.2))).bind fun g18 =>
    (guardK v13 true ((loadV none g18.1 g18.2).bind fun v21 =>
    some (v21, g18.2)) (some (.und, g18.2))).bind fun g20 =>
    (guardK v13 true ((binV .leq g16.1 g20.1).bind fun v23 =>
    some (v23, g20.2)) (some (.und, g20.2))).bind fun g22 =>
    (pickV v13 g22.1 (.bool false)).bind fun v24 =>
    finish false n0 [v24] g22.2
    else none

theorem c45 {ov : Over} (h : ov 45 = none) (args : List AV) (S : Store) : (Prg.mk T an ov).call 45 args S = F45 (Prg.mk T an ov).call args S :=
  ((Prg.mk T an ov).call_eq 45 args S).trans ((Prg.step_none h).trans (by kernel_rfl))

/-! ### 49 slices.ContainsFunc[[]synoptic/api.Report,synoptic/api.Report] -/
noncomputable def F49 (C : CallEnv) (args : List AV) (S : Store) : Option (AV × Store) :=
  let n0 := S.length
  let t0 := args.getD 0 .u
  let t1 := args.getD 1 .u
  (argVs [t0, t1]).bind fun v1 => (C 66 v1 S).bind fun v2 =>
  (binV .geq v2.1 (.int .i64 0)).bind fun v3 =>
  finish false n0 [v3] v2.2

theorem c49 {ov : Over} (h : ov 49 = none) (args : List AV) (S : Store) : (Prg.mk T an ov).call 49 args S = F49 (Prg.mk T an ov).call args S :=
  ((Prg.mk T an ov).call_eq 49 args S).trans ((Prg.step_none h).trans (by kernel_rfl))

/-! ### 54 synoptic/timeline.size -/
noncomputable def F54 (_C : CallEnv) (args : List AV) (S : Store) : Option (AV × Store) :=
  let n0 := S.length
  let t0 := args.getD 0 .u
  let t1 := args.getD 1 .u
  (imms (cellsOf t0)).bind fun v1 =>
  (imms (cellsOf t1)).bind fun v2 =>
  (fieldAV 2 (.ip v1 0)).bind fun v3 =>
  (loadV none v3 S).bind fun v4 =>
  (fieldAV 2 (.ip v2 0)).bind fun v5 =>
  (loadV none v5 S).bind fun v6 =>
  (binV .sub v4 v6).bind fun v7 =>
  (fieldAV 2 (.ip v2 0)).bind fun v8 =>
  (loadV none v8 S).bind fun v9 =>
  (fieldAV 2 (.ip v1 0)).bind fun v10 =>
  (loadV none v10 S).bind fun v11 =>
  (binV .sub v9 v11).bind fun v12 =>
  (minmaxV true [v7, v12]).bind fun v13 =>
  finish false n0 [v13] S

theorem c54 {ov : Over} (h : ov 54 = none) (args : List AV) (S : Store) : (Prg.mk T an ov).call 54 args S = F54 (Prg.mk T an ov).call args S :=
  ((Prg.mk T an ov).call_eq 54 args S).trans ((Prg.step_none h).trans (by kernel_rfl))

/-! ### 60 slices.ContainsFunc[[]int,int] -/
noncomputable def F60 (C : CallEnv) (args : List AV) (S : Store) : Option (AV × Store) :=
  let n0 := S.length
  let t0 := args.getD 0 .u
  let t1 := args.getD 1 .u
  (argVs [t0, t1]).bind fun v1 => (C 81 v1 S).bind fun v2 =>
  (binV .geq v2.1 (.int .i64 0)).bind fun v3 =>
  finish false n0 [v3] v2.2

theorem c60 {ov : Over} (h : ov 60 = none) (args : List AV) (S : Store) : (Prg.mk T an ov).call 60 args S = F60 (Prg.mk T an ov).call args S :=
  ((Prg.mk T an ov).call_eq 60 args S).trans ((Prg.step_none h).trans (by kernel_rfl))

/-! ### 64 synoptic/element.Validate$1$1 -/
noncomputable def F64 (C : CallEnv) (args : List AV) (S : Store) : Option (AV × Store) :=
  let n0 := S.length
  let t0 := args.getD 0 .u
  let t1 := args.getD 1 .u
  (imms (cellsOf t0)).bind fun v1 =>
  (loadV (some 2) (.ip v1 0) S).bind fun v2 =>
  (argVs [v2]).bind fun v3 => (C 65 v3 S).bind fun v4 =>
  (loadIV none t1).bind fun v5 =>
  (binV .eql v4.1 v5).bind fun v6 =>
  finish false n0 [v6] v4.2

theorem c64 {ov : Over} (h : ov 64 = none) (args : List AV) (S : Store) : (Prg.mk T an ov).call 64 args S = F64 (Prg.mk T an ov).call args S :=
  ((Prg.mk T an ov).call_eq 64 args S).trans ((Prg.step_none h).trans (by kernel_rfl))

/-! ### 79 synoptic/synopticref02.Weights -/
noncomputable def F79 (C : CallEnv) (args : List AV) (S : Store) : Option (AV × Store) :=
  let n0 := S.length
  let t0 := args.getD 0 .u
  (imms (cellsOf t0)).bind fun v1 =>
  let S2 : Store := S ++ [.obj [(.int .i64 0), (.int .i64 0), (.int .i64 0), (.int .i64 0), (.int .i64 0), (.int .i64 0), (.int .i64 0), (.int .i64 0), (.int .i64 0), (.int .i64 0), (.int .i64 0), (.int .i64 0)]]
  let S3 : Store := S2 ++ [.obj [(.int .i64 0), (.int .i64 0), (.int .i64 0), (.int .i64 0), (.int .i64 0), (.int .i64 0), (.int .i64 0), (.int .i64 0), (.int .i64 0), (.int .i64 0), (.int .i64 0), (.int .i64 0)]]
  (fieldAV 0 (.ip v1 0)).bind fun v4 =>
  (loadV none v4 S3).bind fun v5 =>
  (argVs [v5]).bind fun v6 => (C 97 v6 S3).bind fun v7 =>
  (extractV v7.1 0).bind fun v8 =>
  (extractV v7.1 1).bind fun _v9 =>
  (imms (cellsOf v8)).bind fun v10 => if v10.length = 3 then
    (indexAV 1 (some 3) (.ip v10 0) (.int .i64 0)).bind fun v11 =>
    (loadV none v11 v7.2).bind fun v12 =>
    (indexAV 1 (some 3) (.ip v10 0) (.int .i64 1)).bind fun v13 =>
    (loadIV none v13).bind fun v14 =>
    (indexAV 1 (some 3) (.ip v10 0) (.int .i64 2)).bind fun v15 =>
    (loadIV none v15).bind fun v16 =>
    (fieldAV 1 (.ip v1 0)).bind fun v17 =>
    (loadV none v17 v7.2).bind fun v18 =>
    (fieldAV 2 (.ip v1 0)).bind fun v19 =>
    (loadIV none v19).bind fun v20 =>
    (fieldAV 3 (.ip v1 0)).bind fun v21 =>
    (loadIV none v21).bind fun v22 =>
    (indexAV 1 (some 12) (.ptr S2.length 0) v12).bind fun v23 =>
    (storeV n0 1 v23 v18 v7.2).bind fun S24 =>
    (indexAV 1 (some 12) (.ptr S2.length 0) v14).bind fun v25 =>
    (storeV n0 1 v25 v20 S24).bind fun S26 =>
    (indexAV 1 (some 12) (.ptr S2.length 0) v16).bind fun v27 =>
    (storeV n0 1 v27 v22 S26).bind fun S28 =>
    (loadV (some 12) (.ptr S2.length 0) S28).bind fun v29 =>
    (storeV n0 12 (.ptr S.length 0) v29 S28).bind fun S30 =>
    ((loadV (some 12) (.ptr S.length 0) S30).bind fun v31 => (some []).bind fun v33 => some (v31 :: v33)).bind fun v32 => finish false n0 v32 S30
    else none

theorem c79 {ov : Over} (h : ov 79 = none) (args : List AV) (S : Store) : (Prg.mk T an ov).call 79 args S = F79 (Prg.mk T an ov).call args S :=
  ((Prg.mk T an ov).call_eq 79 args S).trans ((Prg.step_none h).trans (by kernel_rfl))

/-! ### 83 synoptic/element.Describe -/
noncomputable def F83_J1 (_C : CallEnv) (n0 : Nat) (t2 t5 : AV) (S : Store) : Option (AV × Store) :=
  (loadV (some 4) t5 S).bind fun v31 =>
  (storeV n0 4 t2 v31 S).bind fun S32 =>
  ((loadV (some 4) t2 S32).bind fun v33 => ((some []).bind fun v37 => some ((.int .i64 0) :: v37)).bind fun v36 => some (v33 :: v36)).bind fun v35 => finish false n0 v35 S32

noncomputable def F83 (C : CallEnv) (args : List AV) (S : Store) : Option (AV × Store) :=
  let n0 := S.length
  let t0 := args.getD 0 .u
  let S1 : Store := S ++ [.obj [(.str []), (.int .i64 0), (.int .i64 0), (.int .i64 0)]]
  (binV .lss t0 (.int .i64 1)).bind fun v2 =>
  (guardK v2 false (some (t0, S1)) (some (.und, S1))).bind fun g3 =>
  (guardK v2 false ((binV .gtr g3.1 (.int .i64 11)).bind fun v5 =>
  some (v5, g3.2)) (some (.und, g3.2))).bind fun g4 =>
  (pickV v2 (.bool true) g4.1).bind fun v6 =>
  condK v6
    ((buildV [(.str []), (.int .i64 0), (.int .i64 0), (.int .i64 0)] []).bind fun v7 =>
    (storeV n0 4 (.ptr S.length 0) v7 g4.2).bind fun S8 =>
    ((loadV (some 4) (.ptr S.length 0) S8).bind fun v9 => ((some []).bind fun v13 => some ((.int .i64 4) :: v13)).bind fun v12 => some (v9 :: v12)).bind fun v11 => finish false n0 v11 S8)
    ((binV .sub t0 (.int .i64 1)).bind fun v14 =>
    (indexAV 2 (some 11) (.ip glob0 0) v14).bind fun v15 =>
    (loadV (some 2) v15 g4.2).bind fun v16 =>
    (imms (cellsOf v16)).bind fun v17 => if v17.length = 2 then
      (binV .sub t0 (.int .i64 1)).bind fun v18 =>
      (indexSV (.str [80, 84, 68, 69, 78, 65, 66, 70, 71, 74, 75]) v18).bind fun v19 =>
      (ofIntV v19).bind fun v20 =>
      (indexAV 1 (some 2) (.ip v17 0) (.int .i64 0)).bind fun v21 =>
      (loadV none v21 g4.2).bind fun v22 =>
      (indexAV 1 (some 2) (.ip v17 0) (.int .i64 1)).bind fun v23 =>
      (loadV none v23 g4.2).bind fun v24 =>
      (buildV [(.str []), (.int .i64 0), (.int .i64 0), (.int .i64 0)] [(0, 1, v20), (1, 1, v22), (2, 1, v24), (3, 1, (.int .i64 4))]).bind fun v25 =>
      (cells1 (cellsOf v25)).bind fun v26 => if v26.length = 4 then
        let S27 : Store := g4.2 ++ [.obj v26]
        (binV .eql t0 (.int .i64 1)).bind fun v28 =>
        condK v28
          ((fieldAV 3 (.ptr g4.2.length 0)).bind fun v29 =>
          (storeV n0 1 v29 (.int .i64 5) S27).bind fun S30 =>
          F83_J1 C n0 (.ptr S.length 0) (.ptr g4.2.length 0) S30)
          (F83_J1 C n0 (.ptr S.length 0) (.ptr g4.2.length 0) S27)
        else none
      else none)

theorem c83 {ov : Over} (h : ov 83 = none) (args : List AV) (S : Store) : (Prg.mk T an ov).call 83 args S = F83 (Prg.mk T an ov).call args S :=
  ((Prg.mk T an ov).call_eq 83 args S).trans ((Prg.step_none h).trans (by kernel_rfl))

end Go.Proofs.YtlilahgndpdkfaaDoor

/-
  Printed by a program of this claim (gen.py, mk.py): functions.
-/
namespace Go.Proofs.YtlilahgndpdkfaaDoor
open Go Go.Abs
set_option maxRecDepth 100000
/-! ### 5 synoptic/synopticlaw16.TimelineCalm -/
noncomputable def F5_L1 (_C : CallEnv) (n0 : Nat) (_t5 t6 t7 : AV) (t8 : AV) (S : Store) : Option ((List AV × Store) ⊕ (Ex × List AV × Store)) :=
  let n1 := S.length
  (binV .leq t8 (.int .i64 11)).bind fun v7 =>
  condK v7
    ((fieldAV 1 t7).bind fun v8 =>
    (indexAV 1 (some 12) v8 t8).bind fun v9 =>
    (storeV n0 1 v9 t6 S).bind fun S10 =>
    (binV .add t8 (.int .i64 1)).bind fun v11 =>
    (nextS n0 n1 [v11] S10).bind fun r => some (.inl r))
    (some (.inr (.exit 0, [], S)))

noncomputable def F5_L2 (C : CallEnv) (n0 : Nat) (t5 t6 _t7 : AV) (t9 t10 t11 t12 : AV) (S : Store) : Option ((List AV × Store) ⊕ (Ex × List AV × Store)) :=
  let n2 := S.length
  (binV .gtr t12 (.int .i64 0)).bind fun v20 =>
  condK v20
    ((buildV [(.int .i64 0), (.int .i64 0)] [(0, 1, (.int .i64 1)), (1, 1, t10)]).bind fun v21 =>
    (buildV [(.int .i64 0), (.int .i64 0)] [(0, 1, (.int .i64 2)), (1, 1, (.int .i64 2800))]).bind fun v22 =>
    (bsliceV 2 [cellsOf v21, cellsOf v22]).bind fun v23 =>
    (buildV [(.int .i64 0), (.str []), (.int .i64 0), (.int .i64 0), (.int .i64 0), (.int .i64 0), (.int .i64 0), (.sl [] .full)] [(0, 1, (.int .i64 1)), (1, 1, (.str [65, 76, 80, 72, 65])), (2, 1, t11), (7, 1, v23)]).bind fun v24 =>
    (bsliceV 8 [cellsOf v24]).bind fun v25 =>
    (appendV 8 t9 v25 S).bind fun v26 =>
    (ownV 8 v26.1 v26.2).bind fun v27 =>
    (argVs [t5, (.int .i64 1), (.int .i64 200)]).bind fun v28 => (C 23 v28 v27.2).bind fun v29 =>
    (binV .add t11 v29.1).bind fun v30 =>
    (unV .neg t6).bind fun v31 =>
    (argVs [t5, v31, t6]).bind fun v32 => (C 23 v32 v29.2).bind fun v33 =>
    (binV .add v29.1 (.int .i64 59)).bind fun v34 =>
    (binV .quo v34 (.int .i64 60)).bind fun v35 =>
    (binV .mul v33.1 v35).bind fun v36 =>
    (binV .add t10 v36).bind fun v37 =>
    (minmaxV false [(.int .i64 10900), v37]).bind fun v38 =>
    (minmaxV true [(.int .i64 9000), v38]).bind fun v39 =>
    (binV .sub t12 (.int .i64 1)).bind fun v40 =>
    (nextS n0 n2 [v27.1, v39, v30, v40] v33.2).bind fun r => some (.inl r))
    (some (.inr (.exit 2, [t9], S)))

noncomputable def F5_L3 (C : CallEnv) (n0 : Nat) (t5 t7 _t9 : AV) (t18 : AV) (S : Store) : Option ((List AV × Store) ⊕ (Ex × List AV × Store)) :=
  let n3 := S.length
  (binV .leq t18 (.int .i64 11)).bind fun v70 =>
  condK v70
    ((argVs [t5, (.int .i64 1), (.int .i64 50)]).bind fun v71 => (C 23 v71 S).bind fun v72 =>
    (fieldAV 13 t7).bind fun v73 =>
    (indexAV 1 (some 12) v73 t18).bind fun v74 =>
    (storeV n0 1 v74 v72.1 v72.2).bind fun S75 =>
    (binV .add t18 (.int .i64 1)).bind fun v76 =>
    (nextS n0 n3 [v76] S75).bind fun r => some (.inl r))
    (some (.inr (.exit 4, [], S)))

noncomputable def F5_L4 (_C : CallEnv) (n0 : Nat) (_t20 t115 t116 : AV) (t117 : AV) (S : Store) : Option ((List AV × Store) ⊕ (Ex × List AV × Store)) :=
  let n4 := S.length
  (binV .lss t117 t116).bind fun v85 =>
  condK v85
    ((indexAV 3 none t115 t117).bind fun v86 =>
    (loadV (some 3) v86 S).bind fun v87 =>
    (imms (cellsOf v87)).bind fun v88 => if v88.length = 3 then
      (fieldAV 1 (.ip v88 0)).bind fun v89 =>
      (loadV none v89 S).bind fun v90 =>
      (binV .neq v90 (.int .i64 1)).bind fun v91 =>
      condK v91
        (some (.inr (.ret, [(.bool false)], S)))
        ((binV .add t117 (.int .i64 1)).bind fun v92 =>
        (nextS n0 n4 [v92] S).bind fun r => some (.inl r))
      else none)
    (some (.inr (.exit 6, [.u], S)))

noncomputable def F5 (C : CallEnv) (args : List AV) (S : Store) : Option (AV × Store) :=
  let n0 := S.length
  let t0 := args.getD 0 .u
  let t1 := args.getD 1 .u
  (argVs [t0]).bind fun v1 => (C 11 v1 S).bind fun v2 =>
  (argVs [t1, (.int .i64 100)]).bind fun v3 => (C 22 v3 v2.2).bind fun v4 =>
  (binV .add (.int .i64 1) v4.1).bind fun v5 =>
  let S6 : Store := v4.2 ++ [.obj [(.int .i64 0), (.int .i64 0), (.int .i64 0), (.int .i64 0), (.int .i64 0), (.int .i64 0), (.int .i64 0), (.int .i64 0), (.int .i64 0), (.int .i64 0), (.int .i64 0), (.int .i64 0), (.int .i64 0), (.int .i64 0), (.int .i64 0), (.int .i64 0), (.int .i64 0), (.int .i64 0), (.int .i64 0), (.int .i64 0), (.int .i64 0), (.int .i64 0), (.int .i64 0), (.int .i64 0), (.int .i64 0), (.int .i64 0), (.int .i64 0), (.int .i64 0), (.int .i64 0), (.int .i64 0), (.int .i64 0), (.int .i64 0), (.int .i64 0), (.int .i64 0), (.int .i64 0), (.int .i64 0), (.int .i64 0), (.int .i64 0), (.int .i64 0), (.int .i64 0), (.int .i64 0)]]
  (iter (fun s => F5_L1 C n0 v2.1 v5 (.ptr v4.2.length 0) (s.1.getD 0 .u) s.2) ([(.int .i64 1)], S6)).bind fun r12 => exK none
    (fun i13 => bif Nat.beq i13 0 then ((ownV 8 (.sl [] .full) r12.2.2).bind fun v14 =>
    (argVs [v2.1]).bind fun v15 => (C 13 v15 v14.2).bind fun v16 =>
    (binV .quo v16.1 (.int .i64 2)).bind fun v17 =>
    (argVs [v2.1, (.int .i64 1), (.int .i64 12)]).bind fun v18 => (C 23 v18 v16.2).bind fun v19 =>
    (iter (fun s => F5_L2 C n0 v2.1 v5 (.ptr v4.2.length 0) (s.1.getD 0 .u) (s.1.getD 1 .u) (s.1.getD 2 .u) (s.1.getD 3 .u) s.2) ([v14.1, (.int .i64 10000), v17, v19.1], v19.2)).bind fun r41 => exK none
      (fun i42 => bif Nat.beq i42 2 then ((loadV (some 41) (.ptr v4.2.length 0) r41.2.2).bind fun v43 =>
      (argVs [(r41.2.1.getD 0 .u), v43]).bind fun v44 => (C 17 v44 r41.2.2).bind fun v45 =>
      (extractV v45.1 0).bind fun v46 =>
      (extractV v45.1 1).bind fun v47 =>
      (buildV [(.int .i64 0), (.int .i64 0), (.int .i64 0), (.int .i64 0), (.int .i64 0), (.int .i64 0), (.int .i64 0), (.int .i64 0), (.int .i64 0), (.int .i64 0), (.int .i64 0), (.int .i64 0), (.int .i64 0), (.int .i64 0), (.int .i64 0), (.int .i64 0), (.int .i64 0), (.int .i64 0), (.int .i64 0), (.int .i64 0), (.int .i64 0), (.int .i64 0), (.int .i64 0), (.int .i64 0), (.int .i64 0), (.int .i64 0), (.int .i64 0), (.int .i64 0), (.int .i64 0), (.int .i64 0), (.int .i64 0), (.int .i64 0), (.int .i64 0), (.int .i64 0), (.int .i64 0), (.int .i64 0), (.int .i64 0), (.int .i64 0), (.int .i64 0), (.int .i64 0), (.int .i64 0)] []).bind fun v48 =>
      (argVs [(r41.2.1.getD 0 .u), v48]).bind fun v49 => (C 17 v49 v45.2).bind fun v50 =>
      (extractV v50.1 0).bind fun v51 =>
      (extractV v50.1 1).bind fun v52 =>
      (binV .neq v47 (.int .i64 0)).bind fun v53 =>
      (guardK v53 false (some (v52, v50.2)) (some (.und, v50.2))).bind fun g54 =>
      (guardK v53 false ((binV .neq g54.1 (.int .i64 0)).bind fun v56 =>
      some (v56, g54.2)) (some (.und, g54.2))).bind fun g55 =>
      (pickV v53 (.bool true) g55.1).bind fun v57 =>
      (guardK v57 false (some (v46, g55.2)) (some (.und, g55.2))).bind fun g58 =>
      (guardK v57 false ((lenV g58.1).bind fun v60 =>
      some (v60, g58.2)) (some (.und, g58.2))).bind fun g59 =>
      (guardK v57 false ((binV .gtr g59.1 (.int .i64 0)).bind fun v62 =>
      some (v62, g59.2)) (some (.und, g59.2))).bind fun g61 =>
      (pickV v57 (.bool true) g61.1).bind fun v63 =>
      (guardK v63 false (some (v51, g61.2)) (some (.und, g61.2))).bind fun g64 =>
      (guardK v63 false ((lenV g64.1).bind fun v66 =>
      some (v66, g64.2)) (some (.und, g64.2))).bind fun g65 =>
      (guardK v63 false ((binV .gtr g65.1 (.int .i64 0)).bind fun v68 =>
      some (v68, g65.2)) (some (.und, g65.2))).bind fun g67 =>
      (pickV v63 (.bool true) g67.1).bind fun v69 =>
      condK v69
        (finish false n0 [(.bool false)] g67.2)
        ((iter (fun s => F5_L3 C n0 v2.1 (.ptr v4.2.length 0) (r41.2.1.getD 0 .u) (s.1.getD 0 .u) s.2) ([(.int .i64 1)], g67.2)).bind fun r77 => exK none
          (fun i78 => bif Nat.beq i78 4 then ((loadV (some 41) (.ptr v4.2.length 0) r77.2.2).bind fun v79 =>
          (argVs [(r41.2.1.getD 0 .u), v79]).bind fun v80 => (C 17 v80 r77.2.2).bind fun v81 =>
          (extractV v81.1 0).bind fun v82 =>
          (extractV v81.1 1).bind fun v83 =>
          (lenV v82).bind fun v84 =>
          (iter (fun s => F5_L4 C n0 v83 v82 v84 (s.1.getD 0 .u) s.2) ([(.int .i64 0)], v81.2)).bind fun r93 => exK none
            (fun i94 => bif Nat.beq i94 6 then ((binV .eql v83 (.int .i64 0)).bind fun v95 =>
            (guardK v95 true ((argVs []).bind fun v97 => (C 10 v97 r93.2.2).bind fun v98 =>
            some (v98.1, v98.2)) (some (.und, r93.2.2))).bind fun g96 =>
            (pickV v95 g96.1 (.bool false)).bind fun v99 =>
            finish false n0 [v99] g96.2) else (none))
            (finish false n0 [(r93.2.1.getD 0 .u)] r93.2.2) r93.1) else (none))
          (finish false n0 [.u] r77.2.2) r77.1)) else (none))
      (finish false n0 [.u] r41.2.2) r41.1) else (none))
    (finish false n0 [.u] r12.2.2) r12.1

theorem c5 {ov : Over} (h : ov 5 = none) (args : List AV) (S : Store) : (Prg.mk T an ov).call 5 args S = F5 (Prg.mk T an ov).call args S :=
  ((Prg.mk T an ov).call_eq 5 args S).trans ((Prg.step_none h).trans (by kernel_rfl))

/-! ### 9 synoptic/synopticdata.SmallAll -/
noncomputable def F9_L1 (C : CallEnv) (n0 : Nat) (t0 : AV) (t5 : AV) (S : Store) : Option ((List AV × Store) ⊕ (Ex × List AV × Store)) :=
  let n1 := S.length
  (lenV t0).bind fun v3 =>
  (binV .lss t5 v3).bind fun v4 =>
  condK v4
    ((indexAV 8 none t0 t5).bind fun v5 =>
    (loadV (some 8) v5 S).bind fun v6 =>
    (argVs [v6]).bind fun v7 => (C 26 v7 S).bind fun v8 =>
    (unV .not v8.1).bind fun v9 =>
    condK v9
      (some (.inr (.ret, [(.bool false)], v8.2)))
      ((binV .add t5 (.int .i64 1)).bind fun v10 =>
      (nextS n0 n1 [v10] v8.2).bind fun r => some (.inl r)))
    (some (.inr (.exit 0, [.u], S)))

noncomputable def F9 (C : CallEnv) (args : List AV) (S : Store) : Option (AV × Store) :=
  let n0 := S.length
  let t0 := args.getD 0 .u
  let t1 := args.getD 1 .u
  (lenV t0).bind fun v1 =>
  (binV .gtr v1 t1).bind fun v2 =>
  condK v2
    (finish false n0 [(.bool false)] S)
    ((iter (fun s => F9_L1 C n0 t0 (s.1.getD 0 .u) s.2) ([(.int .i64 0)], S)).bind fun r11 => exK none
      (fun i12 => bif Nat.beq i12 0 then (finish false n0 [(.bool true)] r11.2.2) else (none))
      (finish false n0 [(r11.2.1.getD 0 .u)] r11.2.2) r11.1)

theorem c9 {ov : Over} (h : ov 9 = none) (args : List AV) (S : Store) : (Prg.mk T an ov).call 9 args S = F9 (Prg.mk T an ov).call args S :=
  ((Prg.mk T an ov).call_eq 9 args S).trans ((Prg.step_none h).trans (by kernel_rfl))

/-! ### 13 synoptic/synopticdata.Minute -/
noncomputable def F13 (C : CallEnv) (args : List AV) (S : Store) : Option (AV × Store) :=
  let n0 := S.length
  let t0 := args.getD 0 .u
  (argVs [t0, (.int .i64 6)]).bind fun v1 => (C 15 v1 S).bind fun v2 =>
  (binV .eql v2.1 (.int .i64 0)).bind fun v3 =>
  condK v3
    ((argVs [t0]).bind fun v4 => (C 31 v4 v2.2).bind fun v5 =>
    (binV .mul v5.1 (.int .i64 7919)).bind fun v6 =>
    (argVs [t0]).bind fun v7 => (C 31 v7 v5.2).bind fun v8 =>
    (binV .add v6 v8.1).bind fun v9 =>
    (argVs [v9, (.int .i64 52596000)]).bind fun v10 => (C 22 v10 v8.2).bind fun v11 =>
    finish false n0 [v11.1] v11.2)
    ((binV .eql v2.1 (.int .i64 1)).bind fun v12 =>
    condK v12
      ((bsliceV 1 [cellsOf (.int .i64 0), cellsOf (.int .i64 52595999), cellsOf (.int .i64 20160), cellsOf (.int .i64 52575839)]).bind fun v13 =>
      (argVs [t0, v13]).bind fun v14 => (C 29 v14 v2.2).bind fun v15 =>
      finish false n0 [v15.1] v15.2)
      ((argVs [t0, (.int .i64 2000)]).bind fun v16 => (C 15 v16 v2.2).bind fun v17 =>
      (binV .mul v17.1 (.int .i64 60)).bind fun v18 =>
      (binV .add (.int .i64 14000000) v18).bind fun v19 =>
      finish false n0 [v19] v17.2))

theorem c13 {ov : Over} (h : ov 13 = none) (args : List AV) (S : Store) : (Prg.mk T an ov).call 13 args S = F13 (Prg.mk T an ov).call args S :=
  ((Prg.mk T an ov).call_eq 13 args S).trans ((Prg.step_none h).trans (by kernel_rfl))

/-! ### 17 synoptic/timeline.Check -/
noncomputable def F17_J1 (_C : CallEnv) (n0 : Nat) (n1 : Nat) (t7 t49 : AV) (S : Store) : Option ((List AV × Store) ⊕ (Ex × List AV × Store)) :=
  (binV .add t49 (.int .i64 1)).bind fun v93 =>
  (nextS n0 n1 [t7, v93] S).bind fun r => some (.inl r)

noncomputable def F17_L1 (C : CallEnv) (n0 : Nat) (t8 t9 t10 t12 t47 t48 : AV) (t7 t49 : AV) (S : Store) : Option ((List AV × Store) ⊕ (Ex × List AV × Store)) :=
  let n1 := S.length
  (binV .lss t49 t48).bind fun v34 =>
  condK v34
    ((indexAV 3 none t47 t49).bind fun v35 =>
    (loadV (some 3) v35 S).bind fun v36 =>
    (imms (cellsOf v36)).bind fun v37 => if v37.length = 3 then
      (indexAV 1 none t10 t49).bind fun v38 =>
      (loadV none v38 S).bind fun v39 =>
      (guardK v39 false (some (t12, S)) (some (.und, S))).bind fun g40 =>
      (guardK v39 false ((binV .gtr g40.1 (.int .i64 0)).bind fun v42 =>
      some (v42, g40.2)) (some (.und, g40.2))).bind fun g41 =>
      (guardK v39 false (some (g41.1, g41.2)) (some (.und, g41.2))).bind fun g43 =>
      (guardK g43.1 true (some (t49, g43.2)) (some (.und, g43.2))).bind fun g44 =>
      (guardK g43.1 true ((binV .gtr g44.1 (.int .i64 0)).bind fun v46 =>
      some (v46, g44.2)) (some (.und, g44.2))).bind fun g45 =>
      (guardK v39 false ((pickV g43.1 g45.1 (.bool false)).bind fun v48 =>
      some (v48, g45.2)) (some (.und, g45.2))).bind fun g47 =>
      (guardK v39 false (some (g47.1, g47.2)) (some (.und, g47.2))).bind fun g49 =>
      (guardK g49.1 true (some (t49, g49.2)) (some (.und, g49.2))).bind fun g50 =>
      (guardK g49.1 true ((binV .add g50.1 (.int .i64 1)).bind fun v52 =>
      some (v52, g50.2)) (some (.und, g50.2))).bind fun g51 =>
      (guardK g49.1 true (some (t9, g51.2)) (some (.und, g51.2))).bind fun g53 =>
      (guardK g49.1 true ((lenV g53.1).bind fun v55 =>
      some (v55, g53.2)) (some (.und, g53.2))).bind fun g54 =>
      (guardK g49.1 true ((binV .lss g51.1 g54.1).bind fun v57 =>
      some (v57, g54.2)) (some (.und, g54.2))).bind fun g56 =>
      (guardK v39 false ((pickV g49.1 g56.1 (.bool false)).bind fun v59 =>
      some (v59, g56.2)) (some (.und, g56.2))).bind fun g58 =>
      (guardK v39 false (some (g58.1, g58.2)) (some (.und, g58.2))).bind fun g60 =>
      (guardK g60.1 true (some (t9, g60.2)) (some (.und, g60.2))).bind fun g61 =>
      (guardK g60.1 true (some (t49, g61.2)) (some (.und, g61.2))).bind fun g62 =>
      (guardK g60.1 true ((binV .sub g62.1 (.int .i64 1)).bind fun v64 =>
      some (v64, g62.2)) (some (.und, g62.2))).bind fun g63 =>
      (guardK g60.1 true ((indexAV 3 none g61.1 g63.1).bind fun v66 =>
      some (v66, g63.2)) (some (.und, g63.2))).bind fun g65 =>
      (guardK g60.1 true ((loadV (some 3) g65.1 g65.2).bind fun v68 =>
      some (v68, g65.2)) (some (.und, g65.2))).bind fun g67 =>
      (guardK g60.1 true ((loadV (some 3) (.ip v37 0) g67.2).bind fun v70 =>
      some (v70, g67.2)) (some (.und, g67.2))).bind fun g69 =>
      (guardK g60.1 true (some (t9, g69.2)) (some (.und, g69.2))).bind fun g71 =>
      (guardK g60.1 true (some (t49, g71.2)) (some (.und, g71.2))).bind fun g72 =>
      (guardK g60.1 true ((binV .add g72.1 (.int .i64 1)).bind fun v74 =>
      some (v74, g72.2)) (some (.und, g72.2))).bind fun g73 =>
      (guardK g60.1 true ((indexAV 3 none g71.1 g73.1).bind fun v76 =>
      some (v76, g73.2)) (some (.und, g73.2))).bind fun g75 =>
      (guardK g60.1 true ((loadV (some 3) g75.1 g75.2).bind fun v78 =>
      some (v78, g75.2)) (some (.und, g75.2))).bind fun g77 =>
      (guardK g60.1 true (some (t12, g77.2)) (some (.und, g77.2))).bind fun g79 =>
      (guardK g60.1 true ((argVs [g67.1, g69.1, g77.1, g79.1]).bind fun v81 => (C 36 v81 g79.2).bind fun v82 =>
      some (v82.1, v82.2)) (some (.und, g79.2))).bind fun g80 =>
      (guardK v39 false ((pickV g60.1 g80.1 (.bool false)).bind fun v84 =>
      some (v84, g80.2)) (some (.und, g80.2))).bind fun g83 =>
      (pickV v39 (.bool true) g83.1).bind fun v85 =>
      condK v85
        ((fieldAV 0 (.ip v37 0)).bind fun v86 =>
        (loadV none v86 g83.2).bind fun v87 =>
        (fieldAV 1 t8).bind fun v88 =>
        (loadV none v88 g83.2).bind fun v89 =>
        (buildV [(.int .i64 0), (.int .i64 0), (.int .i64 0)] [(0, 1, v87), (1, 1, v89), (2, 1, (.int .i64 4))]).bind fun v90 =>
        (bsliceV 3 [cellsOf v90]).bind fun v91 =>
        (appendMV 3 t7 v91 g83.2).bind fun v92 =>
        F17_J1 C n0 n1 v92.1 t49 v92.2)
        (F17_J1 C n0 n1 t7 t49 g83.2)
      else none)
    (some (.inr (.exit 2, [t7], S)))

noncomputable def F17 (C : CallEnv) (args : List AV) (S : Store) : Option (AV × Store) :=
  let n0 := S.length
  let t0 := args.getD 0 .u
  let t1 := args.getD 1 .u
  (imms (cellsOf t1)).bind fun v1 =>
  (loadV (some 41) (.ip v1 0) S).bind fun v2 =>
  (argVs [t0, v2]).bind fun v3 => (C 33 v3 S).bind fun v4 =>
  (binV .neq v4.1 (.int .i64 0)).bind fun v5 =>
  condK v5
    (finish false n0 [(.sl [] .full), v4.1] v4.2)
    ((argVs [t0]).bind fun v6 => (C 34 v6 v4.2).bind fun v7 =>
    (rangeV v7.1 v7.2).bind fun v8 =>
    rangeK v8.1 (fun w12 w13 v9 S10 K11 =>
      condK w13
        ((entryV v8.1 S10).bind fun v14 =>
        (extractV v14 0).bind fun v15 =>
        (extractV v14 1).bind fun v16 =>
        (imms (cellsOf v15)).bind fun v17 => if v17.length = 2 then
          (lenV v16).bind fun v18 =>
          (msliceV [(.bool false)] v18 v18 S10).bind fun v19 =>
          (fieldAV 1 (.ip v17 0)).bind fun v20 =>
          (loadV none v20 v19.2).bind fun v21 =>
          (fieldAV 1 (.ip v1 0)).bind fun v22 =>
          (indexAV 1 (some 12) v22 v21).bind fun v23 =>
          (loadV none v23 v19.2).bind fun v24 =>
          (binV .gtr v24 (.int .i64 0)).bind fun v25 =>
          condK v25
            ((argVs [v16, v24]).bind fun v26 => (C 35 v26 v19.2).bind fun v27 =>
            (fieldAV 1 (.ip v17 0)).bind fun v28 =>
            (loadV none v28 v27.2).bind fun v29 =>
            (fieldAV 13 (.ip v1 0)).bind fun v30 =>
            (indexAV 1 (some 12) v30 v29).bind fun v31 =>
            (loadV none v31 v27.2).bind fun v32 =>
            (lenV v16).bind fun v33 =>
            (iter (fun s => F17_L1 C n0 (.ip v17 0) v16 v27.1 v32 v16 v33 (s.1.getD 0 .u) (s.1.getD 1 .u) s.2) ([(v9.getD 0 .u), (.int .i64 0)], v27.2)).bind fun r94 => exK none
              (fun i95 => bif Nat.beq i95 2 then (K11 [(r94.2.1.getD 0 .u)] r94.2.2) else (bif Nat.beq i95 1 then (K11 [(r94.2.1.getD 0 .u)] r94.2.2) else (bif Nat.beq i95 0 then ((argVs [(r94.2.1.getD 0 .u), (.clo 38 [])]).bind fun v96 => (C 37 v96 r94.2.2).bind fun v97 =>
              finish false n0 [(r94.2.1.getD 0 .u), (.int .i64 0)] v97.2) else (none))))
              (finish false n0 [.u, .u] r94.2.2) r94.1)
            ((fieldAV 1 (.ip v17 0)).bind fun v98 =>
            (loadV none v98 v19.2).bind fun v99 =>
            (fieldAV 13 (.ip v1 0)).bind fun v100 =>
            (indexAV 1 (some 12) v100 v99).bind fun v101 =>
            (loadV none v101 v19.2).bind fun v102 =>
            (lenV v16).bind fun v103 =>
            (iter (fun s => F17_L1 C n0 (.ip v17 0) v16 v19.1 v102 v16 v103 (s.1.getD 0 .u) (s.1.getD 1 .u) s.2) ([(v9.getD 0 .u), (.int .i64 0)], v19.2)).bind fun r104 => exK none
              (fun i105 => bif Nat.beq i105 2 then (K11 [(r104.2.1.getD 0 .u)] r104.2.2) else (bif Nat.beq i105 1 then (K11 [(r104.2.1.getD 0 .u)] r104.2.2) else (bif Nat.beq i105 0 then ((argVs [(r104.2.1.getD 0 .u), (.clo 38 [])]).bind fun v106 => (C 37 v106 r104.2.2).bind fun v107 =>
              finish false n0 [(r104.2.1.getD 0 .u), (.int .i64 0)] v107.2) else (none))))
              (finish false n0 [.u, .u] r104.2.2) r104.1)
          else none)
        ((argVs [(v9.getD 0 .u), (.clo 38 [])]).bind fun v108 => (C 37 v108 S10).bind fun v109 =>
        finish false n0 [(v9.getD 0 .u), (.int .i64 0)] v109.2)) (leftI v8.1 v8.2) [(.sl [] .full)] v8.2)

theorem c17 {ov : Over} (h : ov 17 = none) (args : List AV) (S : Store) : (Prg.mk T an ov).call 17 args S = F17 (Prg.mk T an ov).call args S :=
  ((Prg.mk T an ov).call_eq 17 args S).trans ((Prg.step_none h).trans (by kernel_rfl))

/-! ### 21 synoptic/synopticlaw16.has -/
noncomputable def F21_L1 (_C : CallEnv) (n0 : Nat) (t3 t7 t8 : AV) (t9 : AV) (S : Store) : Option ((List AV × Store) ⊕ (Ex × List AV × Store)) :=
  let n1 := S.length
  (binV .lss t9 t8).bind fun v3 =>
  condK v3
    ((indexAV 3 none t7 t9).bind fun v4 =>
    (loadV (some 3) v4 S).bind fun v5 =>
    (imms (cellsOf v5)).bind fun v6 => if v6.length = 3 then
      (loadV (some 3) t3 S).bind fun v7 =>
      (loadV (some 3) (.ip v6 0) S).bind fun v8 =>
      (eqcV false [0, 0, 0] v7 v8).bind fun v9 =>
      condK v9
        (some (.inr (.ret, [(.bool true)], S)))
        ((binV .add t9 (.int .i64 1)).bind fun v10 =>
        (nextS n0 n1 [v10] S).bind fun r => some (.inl r))
      else none)
    (some (.inr (.exit 0, [.u], S)))

noncomputable def F21 (C : CallEnv) (args : List AV) (S : Store) : Option (AV × Store) :=
  let n0 := S.length
  let t0 := args.getD 0 .u
  let t1 := args.getD 1 .u
  (imms (cellsOf t1)).bind fun v1 =>
  (lenV t0).bind fun v2 =>
  (iter (fun s => F21_L1 C n0 (.ip v1 0) t0 v2 (s.1.getD 0 .u) s.2) ([(.int .i64 0)], S)).bind fun r11 => exK none
    (fun i12 => bif Nat.beq i12 0 then (finish false n0 [(.bool false)] r11.2.2) else (none))
    (finish false n0 [(r11.2.1.getD 0 .u)] r11.2.2) r11.1

theorem c21 {ov : Over} (h : ov 21 = none) (args : List AV) (S : Store) : (Prg.mk T an ov).call 21 args S = F21 (Prg.mk T an ov).call args S :=
  ((Prg.mk T an ov).call_eq 21 args S).trans ((Prg.step_none h).trans (by kernel_rfl))

/-! ### 25 synoptic/synopticref04.Validate -/
noncomputable def F25_L1 (C : CallEnv) (n0 : Nat) (t0 : AV) (t3 : AV) (S : Store) : Option ((List AV × Store) ⊕ (Ex × List AV × Store)) :=
  let n1 := S.length
  (lenV t0).bind fun v1 =>
  (binV .lss t3 v1).bind fun v2 =>
  condK v2
    ((indexAV 2 none t0 t3).bind fun v3 =>
    (fieldAV 0 v3).bind fun v4 =>
    (loadV none v4 S).bind fun v5 =>
    (argVs [v5]).bind fun v6 => (C 44 v6 S).bind fun v7 =>
    (extractV v7.1 0).bind fun v8 =>
    (extractV v7.1 1).bind fun v9 =>
    (imms (cellsOf v8)).bind fun v10 => if v10.length = 4 then
      (binV .neq v9 (.int .i64 0)).bind fun v11 =>
      condK v11
        (some (.inr (.ret, [v9], v7.2)))
        ((binV .add t3 (.int .i64 1)).bind fun v12 =>
        (nextS n0 n1 [v12] v7.2).bind fun r => some (.inl r))
      else none)
    (some (.inr (.exit 0, [.u], S)))

noncomputable def F25_L2 (C : CallEnv) (n0 : Nat) (t0 : AV) (t6 : AV) (S : Store) : Option ((List AV × Store) ⊕ (Ex × List AV × Store)) :=
  let n2 := S.length
  (lenV t0).bind fun v15 =>
  (binV .lss t6 v15).bind fun v16 =>
  condK v16
    ((indexAV 2 none t0 t6).bind fun v17 =>
    (loadV (some 2) v17 S).bind fun v18 =>
    (argVs [v18]).bind fun v19 => (C 45 v19 S).bind fun v20 =>
    (unV .not v20.1).bind fun v21 =>
    condK v21
      (some (.inr (.ret, [(.int .i64 1)], v20.2)))
      ((binV .add t6 (.int .i64 1)).bind fun v22 =>
      (nextS n0 n2 [v22] v20.2).bind fun r => some (.inl r)))
    (some (.inr (.exit 2, [.u], S)))

noncomputable def F25_L3 (_C : CallEnv) (n0 : Nat) (t0 : AV) (t7 : AV) (S : Store) : Option ((List AV × Store) ⊕ (Ex × List AV × Store)) :=
  let n3 := S.length
  (lenV t0).bind fun v25 =>
  (binV .lss t7 v25).bind fun v26 =>
  condK v26
    ((binV .sub t7 (.int .i64 1)).bind fun v27 =>
    (indexAV 2 none t0 v27).bind fun v28 =>
    (fieldAV 0 v28).bind fun v29 =>
    (loadV none v29 S).bind fun v30 =>
    (indexAV 2 none t0 t7).bind fun v31 =>
    (fieldAV 0 v31).bind fun v32 =>
    (loadV none v32 S).bind fun v33 =>
    (binV .geq v30 v33).bind fun v34 =>
    condK v34
      (some (.inr (.ret, [(.int .i64 8)], S)))
      ((binV .add t7 (.int .i64 1)).bind fun v35 =>
      (nextS n0 n3 [v35] S).bind fun r => some (.inl r)))
    (some (.inr (.exit 4, [.u], S)))

noncomputable def F25 (C : CallEnv) (args : List AV) (S : Store) : Option (AV × Store) :=
  let n0 := S.length
  let t0 := args.getD 0 .u
  (iter (fun s => F25_L1 C n0 t0 (s.1.getD 0 .u) s.2) ([(.int .i64 0)], S)).bind fun r13 => exK none
    (fun i14 => bif Nat.beq i14 0 then ((iter (fun s => F25_L2 C n0 t0 (s.1.getD 0 .u) s.2) ([(.int .i64 0)], r13.2.2)).bind fun r23 => exK none
      (fun i24 => bif Nat.beq i24 2 then ((iter (fun s => F25_L3 C n0 t0 (s.1.getD 0 .u) s.2) ([(.int .i64 1)], r23.2.2)).bind fun r36 => exK none
        (fun i37 => bif Nat.beq i37 4 then (finish false n0 [(.int .i64 0)] r36.2.2) else (none))
        (finish false n0 [(r36.2.1.getD 0 .u)] r36.2.2) r36.1) else (none))
      (finish false n0 [(r23.2.1.getD 0 .u)] r23.2.2) r23.1) else (none))
    (finish false n0 [(r13.2.1.getD 0 .u)] r13.2.2) r13.1

theorem c25 {ov : Over} (h : ov 25 = none) (args : List AV) (S : Store) : (Prg.mk T an ov).call 25 args S = F25 (Prg.mk T an ov).call args S :=
  ((Prg.mk T an ov).call_eq 25 args S).trans ((Prg.step_none h).trans (by kernel_rfl))

/-! ### 29 (*synoptic/synoptickeep.Src).Pick -/
noncomputable def F29 (C : CallEnv) (args : List AV) (S : Store) : Option (AV × Store) :=
  let n0 := S.length
  let t0 := args.getD 0 .u
  let t1 := args.getD 1 .u
  (lenV t1).bind fun v1 =>
  (argVs [t0, v1]).bind fun v2 => (C 15 v2 S).bind fun v3 =>
  (indexAV 1 none t1 v3.1).bind fun v4 =>
  (loadV none v4 v3.2).bind fun v5 =>
  finish false n0 [v5] v3.2

theorem c29 {ov : Over} (h : ov 29 = none) (args : List AV) (S : Store) : (Prg.mk T an ov).call 29 args S = F29 (Prg.mk T an ov).call args S :=
  ((Prg.mk T an ov).call_eq 29 args S).trans ((Prg.step_none h).trans (by kernel_rfl))

/-! ### 33 synoptic/timeline.examine -/
noncomputable def F33_L1 (C : CallEnv) (n0 : Nat) (_t0 t21 t22 : AV) (t23 : AV) (S : Store) : Option ((List AV × Store) ⊕ (Ex × List AV × Store)) :=
  let n1 := S.length
  (binV .lss t23 t22).bind fun v18 =>
  condK v18
    ((indexAV 8 none t21 t23).bind fun v19 =>
    (loadV (some 8) v19 S).bind fun v20 =>
    (imms (cellsOf v20)).bind fun v21 => if v21.length = 8 then
      (fieldAV 7 (.ip v21 0)).bind fun v22 =>
      (loadV none v22 S).bind fun v23 =>
      (argVs [v23]).bind fun v24 => (C 48 v24 S).bind fun v25 =>
      (binV .neq v25.1 (.int .i64 0)).bind fun v26 =>
      condK v26
        (some (.inr (.ret, [v25.1], v25.2)))
        ((binV .add t23 (.int .i64 1)).bind fun v27 =>
        (nextS n0 n1 [v27] v25.2).bind fun r => some (.inl r))
      else none)
    (some (.inr (.exit 0, [.u], S)))

noncomputable def F33_L2 (_C : CallEnv) (n0 : Nat) (_t0 t8 t37 t38 : AV) (t39 : AV) (S : Store) : Option ((List AV × Store) ⊕ (Ex × List AV × Store)) :=
  let n2 := S.length
  (binV .lss t39 t38).bind fun v34 =>
  condK v34
    ((indexAV 8 none t37 t39).bind fun v35 =>
    (loadV (some 8) v35 S).bind fun v36 =>
    (imms (cellsOf v36)).bind fun v37 => if v37.length = 8 then
      (fieldAV 1 (.ip v37 0)).bind fun v38 =>
      (loadV none v38 S).bind fun v39 =>
      (fieldAV 2 (.ip v37 0)).bind fun v40 =>
      (loadV none v40 S).bind fun v41 =>
      (buildV [(.str []), (.int .i64 0)] [(0, 1, v39), (1, 1, v41)]).bind fun v42 =>
      (mapSetV n0 true [1, 0] t8 v42 (.bool true) S).bind fun S43 =>
      (binV .add t39 (.int .i64 1)).bind fun v44 =>
      (nextS n0 n2 [v44] S43).bind fun r => some (.inl r)
      else none)
    (some (.inr (.exit 2, [], S)))

noncomputable def F33 (C : CallEnv) (args : List AV) (S : Store) : Option (AV × Store) :=
  let n0 := S.length
  let t0 := args.getD 0 .u
  let t1 := args.getD 1 .u
  (imms (cellsOf t1)).bind fun v1 =>
  (fieldAV 1 (.ip v1 0)).bind fun v2 =>
  (loadV (some 12) v2 S).bind fun v3 =>
  (argVs [v3]).bind fun v4 => (C 47 v4 S).bind fun v5 =>
  (unV .not v5.1).bind fun v6 =>
  (guardK v6 false ((fieldAV 13 (.ip v1 0)).bind fun v8 =>
  some (v8, v5.2)) (some (.und, v5.2))).bind fun g7 =>
  (guardK v6 false ((loadV (some 12) g7.1 g7.2).bind fun v10 =>
  some (v10, g7.2)) (some (.und, g7.2))).bind fun g9 =>
  (guardK v6 false ((argVs [g9.1]).bind fun v12 => (C 47 v12 g9.2).bind fun v13 =>
  some (v13.1, v13.2)) (some (.und, g9.2))).bind fun g11 =>
  (guardK v6 false ((unV .not g11.1).bind fun v15 =>
  some (v15, g11.2)) (some (.und, g11.2))).bind fun g14 =>
  (pickV v6 (.bool true) g14.1).bind fun v16 =>
  condK v16
    (finish false n0 [(.int .i64 1)] g14.2)
    ((lenV t0).bind fun v17 =>
    (iter (fun s => F33_L1 C n0 t0 t0 v17 (s.1.getD 0 .u) s.2) ([(.int .i64 0)], g14.2)).bind fun r28 => exK none
      (fun i29 => bif Nat.beq i29 0 then ((argVs [t0, (.clo 50 [])]).bind fun v30 => (C 49 v30 r28.2.2).bind fun v31 =>
      condK v31.1
        (finish false n0 [(.int .i64 1)] v31.2)
        (let S32 : Store := v31.2 ++ [.map []]
        (lenV t0).bind fun v33 =>
        (iter (fun s => F33_L2 C n0 t0 (.map v31.2.length) t0 v33 (s.1.getD 0 .u) s.2) ([(.int .i64 0)], S32)).bind fun r45 => exK none
          (fun i46 => bif Nat.beq i46 2 then ((lenMV (.map v31.2.length) r45.2.2).bind fun v47 =>
          (lenV t0).bind fun v48 =>
          (binV .lss v47 v48).bind fun v49 =>
          condK v49
            (finish false n0 [(.int .i64 5)] r45.2.2)
            (finish false n0 [(.int .i64 0)] r45.2.2)) else (none))
          (finish false n0 [.u] r45.2.2) r45.1)) else (none))
      (finish false n0 [(r28.2.1.getD 0 .u)] r28.2.2) r28.1)

theorem c33 {ov : Over} (h : ov 33 = none) (args : List AV) (S : Store) : (Prg.mk T an ov).call 33 args S = F33 (Prg.mk T an ov).call args S :=
  ((Prg.mk T an ov).call_eq 33 args S).trans ((Prg.step_none h).trans (by kernel_rfl))

/-! ### 38 synoptic/timeline.Check$1 -/
noncomputable def F38 (C : CallEnv) (args : List AV) (S : Store) : Option (AV × Store) :=
  let n0 := S.length
  let t0 := args.getD 0 .u
  let t1 := args.getD 1 .u
  (imms (cellsOf t0)).bind fun v1 =>
  (imms (cellsOf t1)).bind fun v2 =>
  (fieldAV 0 (.ip v1 0)).bind fun v3 =>
  (loadV none v3 S).bind fun v4 =>
  (fieldAV 0 (.ip v2 0)).bind fun v5 =>
  (loadV none v5 S).bind fun v6 =>
  (argVs [v4, v6]).bind fun v7 => (C 40 v7 S).bind fun v8 =>
  (fieldAV 1 (.ip v1 0)).bind fun v9 =>
  (loadIV none v9).bind fun v10 =>
  (fieldAV 1 (.ip v2 0)).bind fun v11 =>
  (loadIV none v11).bind fun v12 =>
  (argVs [v10, v12]).bind fun v13 => (C 40 v13 v8.2).bind fun v14 =>
  (bsliceV 1 [cellsOf v8.1, cellsOf v14.1]).bind fun v15 =>
  (argVs [v15]).bind fun v16 => (C 39 v16 v14.2).bind fun v17 =>
  finish false n0 [v17.1] v17.2

theorem c38 {ov : Over} (h : ov 38 = none) (args : List AV) (S : Store) : (Prg.mk T an ov).call 38 args S = F38 (Prg.mk T an ov).call args S :=
  ((Prg.mk T an ov).call_eq 38 args S).trans ((Prg.step_none h).trans (by kernel_rfl))

/-! ### 42 synoptic/synopticref16.line -/
noncomputable def F42_J1 (_C : CallEnv) (n0 : Nat) (n1 : Nat) (t7 t16 : AV) (S : Store) : Option ((List AV × Store) ⊕ (Ex × List AV × Store)) :=
  (binV .add t16 (.int .i64 1)).bind fun v19 =>
  (nextS n0 n1 [t7, v19] S).bind fun r => some (.inl r)

noncomputable def F42_L2 (_C : CallEnv) (n0 : Nat) (t7 _t8 t9 _t10 _t16 : AV) (t12 : AV) (S : Store) : Option ((List AV × Store) ⊕ (Ex × List AV × Store)) :=
  let n2 := S.length
  (lenV t7).bind fun v20 =>
  (binV .lss t12 v20).bind fun v21 =>
  (guardK v21 true (some (t7, S)) (some (.und, S))).bind fun g22 =>
  (guardK v21 true (some (t12, g22.2)) (some (.und, g22.2))).bind fun g23 =>
  (guardK v21 true ((indexAV 3 none g22.1 g23.1).bind fun v25 =>
  some (v25, g23.2)) (some (.und, g23.2))).bind fun g24 =>
  (guardK v21 true ((fieldAV 1 g24.1).bind fun v27 =>
  some (v27, g24.2)) (some (.und, g24.2))).bind fun g26 =>
  (guardK v21 true ((loadV none g26.1 g26.2).bind fun v29 =>
  some (v29, g26.2)) (some (.und, g26.2))).bind fun g28 =>
  (guardK v21 true ((fieldAV 2 t9).bind fun v31 =>
  some (v31, g28.2)) (some (.und, g28.2))).bind fun g30 =>
  (guardK v21 true ((loadV none g30.1 g30.2).bind fun v33 =>
  some (v33, g30.2)) (some (.und, g30.2))).bind fun g32 =>
  (guardK v21 true ((binV .lss g28.1 g32.1).bind fun v35 =>
  some (v35, g32.2)) (some (.und, g32.2))).bind fun g34 =>
  (pickV v21 g34.1 (.bool false)).bind fun v36 =>
  condK v36
    ((binV .add t12 (.int .i64 1)).bind fun v37 =>
    (nextS n0 n2 [v37] g34.2).bind fun r => some (.inl r))
    (some (.inr (.exit 2, [t12], g34.2)))

noncomputable def F42_L1 (C : CallEnv) (n0 : Nat) (t1 t2 t14 t15 : AV) (t7 t16 : AV) (S : Store) : Option ((List AV × Store) ⊕ (Ex × List AV × Store)) :=
  let n1 := S.length
  (binV .lss t16 t15).bind fun v2 =>
  condK v2
    ((indexAV 8 none t14 t16).bind fun v3 =>
    (loadV (some 8) v3 S).bind fun v4 =>
    (imms (cellsOf v4)).bind fun v5 => if v5.length = 8 then
      (fieldAV 7 (.ip v5 0)).bind fun v6 =>
      (loadV none v6 S).bind fun v7 =>
      (argVs [v7, t2]).bind fun v8 => (C 24 v8 S).bind fun v9 =>
      (extractV v9.1 0).bind fun v10 =>
      (extractV v9.1 1).bind fun v11 =>
      (fieldAV 1 (.ip v5 0)).bind fun v12 =>
      (loadV none v12 v9.2).bind fun v13 =>
      (binV .neq v13 t1).bind fun v14 =>
      (guardK v14 false (some (v11, v9.2)) (some (.und, v9.2))).bind fun g15 =>
      (guardK v14 false ((unV .not g15.1).bind fun v17 =>
      some (v17, g15.2)) (some (.und, g15.2))).bind fun g16 =>
      (pickV v14 (.bool true) g16.1).bind fun v18 =>
      condK v18
        (F42_J1 C n0 n1 t7 t16 g16.2)
        ((iter (fun s => F42_L2 C n0 t7 t16 (.ip v5 0) v10 t16 (s.1.getD 0 .u) s.2) ([(.int .i64 0)], g16.2)).bind fun r38 => exK none
          (fun i39 => bif Nat.beq i39 2 then ((fieldAV 2 (.ip v5 0)).bind fun v40 =>
          (loadV none v40 r38.2.2).bind fun v41 =>
          (buildV [(.int .i64 0), (.int .i64 0), (.int .i64 0)] [(0, 1, t16), (1, 1, v41), (2, 1, v10)]).bind fun v42 =>
          (bsliceV 3 [cellsOf v42]).bind fun v43 =>
          (sliceV 3 t7 (some (r38.2.1.getD 0 .u)) none none).bind fun v44 =>
          (appendV 3 v43 v44 r38.2.2).bind fun v45 =>
          (sliceV 3 t7 none (some (r38.2.1.getD 0 .u)) (some (r38.2.1.getD 0 .u))).bind fun v46 =>
          (appendV 3 v46 v45.1 v45.2).bind fun v47 =>
          F42_J1 C n0 n1 v47.1 t16 v47.2) else (bif Nat.beq i39 1 then (F42_J1 C n0 n1 t7 t16 r38.2.2) else (some (.inr (.exit i39, [t7], r38.2.2)))))
          (some (.inr (.ret, [t7], r38.2.2))) r38.1)
      else none)
    (some (.inr (.exit 0, [t7], S)))

noncomputable def F42 (C : CallEnv) (args : List AV) (S : Store) : Option (AV × Store) :=
  let n0 := S.length
  let t0 := args.getD 0 .u
  let t1 := args.getD 1 .u
  let t2 := args.getD 2 .u
  (lenV t0).bind fun v1 =>
  (iter (fun s => F42_L1 C n0 t1 t2 t0 v1 (s.1.getD 0 .u) (s.1.getD 1 .u) s.2) ([(.sl [] .full), (.int .i64 0)], S)).bind fun r48 => exK none
    (fun i49 => bif Nat.beq i49 0 then (finish false n0 [(r48.2.1.getD 0 .u)] r48.2.2) else (none))
    (finish false n0 [.u] r48.2.2) r48.1

theorem c42 {ov : Over} (h : ov 42 = none) (args : List AV) (S : Store) : (Prg.mk T an ov).call 42 args S = F42 (Prg.mk T an ov).call args S :=
  ((Prg.mk T an ov).call_eq 42 args S).trans ((Prg.step_none h).trans (by kernel_rfl))

/-! ### 46 synoptic/synopticref02.Normal -/
noncomputable def F46 (C : CallEnv) (args : List AV) (S : Store) : Option (AV × Store) :=
  let n0 := S.length
  let t0 := args.getD 0 .u
  (imms (cellsOf t0)).bind fun v1 =>
  let S2 : Store := S ++ [.obj [(.int .i64 0), (.int .i64 0), (.int .i64 0), (.int .i64 0)]]
  (loadV (some 4) (.ip v1 0) S2).bind fun v3 =>
  (argVs [v3]).bind fun v4 => (C 59 v4 S2).bind fun v5 =>
  (extractV v5.1 0).bind fun v6 =>
  (extractV v5.1 1).bind fun v7 =>
  (binV .neq v7 (.int .i64 0)).bind fun v8 =>
  condK v8
    ((buildV [(.int .i64 0), (.int .i64 0), (.int .i64 0), (.int .i64 0)] []).bind fun v9 =>
    (storeV n0 4 (.ptr S.length 0) v9 v5.2).bind fun S10 =>
    ((loadV (some 4) (.ptr S.length 0) S10).bind fun v11 => ((some []).bind fun v15 => some (v7 :: v15)).bind fun v14 => some (v11 :: v14)).bind fun v13 => finish false n0 v13 S10)
    ((indexAV 4 none v6 (.int .i64 0)).bind fun v16 =>
    (loadV (some 4) v16 v5.2).bind fun v17 =>
    (storeV n0 4 (.ptr S.length 0) v17 v5.2).bind fun S18 =>
    ((loadV (some 4) (.ptr S.length 0) S18).bind fun v19 => ((some []).bind fun v23 => some ((.int .i64 0) :: v23)).bind fun v22 => some (v19 :: v22)).bind fun v21 => finish false n0 v21 S18)

theorem c46 {ov : Over} (h : ov 46 = none) (args : List AV) (S : Store) : (Prg.mk T an ov).call 46 args S = F46 (Prg.mk T an ov).call args S :=
  ((Prg.mk T an ov).call_eq 46 args S).trans ((Prg.step_none h).trans (by kernel_rfl))

/-! ### 50 synoptic/timeline.examine$1 -/
noncomputable def F50 (_C : CallEnv) (args : List AV) (S : Store) : Option (AV × Store) :=
  let n0 := S.length
  let t0 := args.getD 0 .u
  (imms (cellsOf t0)).bind fun v1 =>
  (fieldAV 2 (.ip v1 0)).bind fun v2 =>
  (loadV none v2 S).bind fun v3 =>
  (binV .lss v3 (.int .i64 0)).bind fun v4 =>
  (guardK v4 false ((fieldAV 2 (.ip v1 0)).bind fun v6 =>
  some (v6, S)) (some (.und, S))).bind fun g5 =>
  (guardK v4 false ((loadV none g5.1 g5.2).bind fun v8 =>
  some (v8, g5.2)) (some (.und, g5.2))).bind fun g7 =>
  (guardK v4 false ((binV .gtr g7.1 (.int .i64 52595999)).bind fun v10 =>
  some (v10, g7.2)) (some (.und, g7.2))).bind fun g9 =>
  (pickV v4 (.bool true) g9.1).bind fun v11 =>
  finish false n0 [v11] g9.2

theorem c50 {ov : Over} (h : ov 50 = none) (args : List AV) (S : Store) : (Prg.mk T an ov).call 50 args S = F50 (Prg.mk T an ov).call args S :=
  ((Prg.mk T an ov).call_eq 50 args S).trans ((Prg.step_none h).trans (by kernel_rfl))

/-! ### 57 cmp.isNaN[int] -/
noncomputable def F57 (_C : CallEnv) (args : List AV) (S : Store) : Option (AV × Store) :=
  let n0 := S.length
  let t0 := args.getD 0 .u
  (binV .neq t0 t0).bind fun v1 =>
  finish false n0 [v1] S

theorem c57 {ov : Over} (h : ov 57 = none) (args : List AV) (S : Store) : (Prg.mk T an ov).call 57 args S = F57 (Prg.mk T an ov).call args S :=
  ((Prg.mk T an ov).call_eq 57 args S).trans ((Prg.step_none h).trans (by kernel_rfl))

/-! ### 61 synoptic/timeline.possible$1 -/
noncomputable def F61 (_C : CallEnv) (args : List AV) (S : Store) : Option (AV × Store) :=
  let n0 := S.length
  let t0 := args.getD 0 .u
  (binV .lss t0 (.int .i64 0)).bind fun v1 =>
  (guardK v1 false (some (t0, S)) (some (.und, S))).bind fun g2 =>
  (guardK v1 false ((binV .gtr g2.1 (.int .i64 10000)).bind fun v4 =>
  some (v4, g2.2)) (some (.und, g2.2))).bind fun g3 =>
  (pickV v1 (.bool true) g3.1).bind fun v5 =>
  finish false n0 [v5] g3.2

theorem c61 {ov : Over} (h : ov 61 = none) (args : List AV) (S : Store) : (Prg.mk T an ov).call 61 args S = F61 (Prg.mk T an ov).call args S :=
  ((Prg.mk T an ov).call_eq 61 args S).trans ((Prg.step_none h).trans (by kernel_rfl))

/-! ### 65 synoptic/element.check -/
noncomputable def F65 (C : CallEnv) (args : List AV) (S : Store) : Option (AV × Store) :=
  let n0 := S.length
  let t0 := args.getD 0 .u
  (imms (cellsOf t0)).bind fun v1 =>
  (fieldAV 0 (.ip v1 0)).bind fun v2 =>
  (loadV none v2 S).bind fun v3 =>
  (argVs [v3]).bind fun v4 => (C 83 v4 S).bind fun v5 =>
  (extractV v5.1 0).bind fun v6 =>
  (extractV v5.1 1).bind fun v7 =>
  (imms (cellsOf v6)).bind fun v8 => if v8.length = 4 then
    (binV .eql v7 (.int .i64 0)).bind fun v9 =>
    (guardK v9 true ((fieldAV 1 (.ip v1 0)).bind fun v11 =>
    some (v11, v5.2)) (some (.und, v5.2))).bind fun g10 =>
    (guardK v9 true ((loadV none g10.1 g10.2).bind fun v13 =>
    some (v13, g10.2)) (some (.und, g10.2))).bind fun g12 =>
    (guardK v9 true ((fieldAV 1 (.ip v8 0)).bind fun v15 =>
    some (v15, g12.2)) (some (.und, g12.2))).bind fun g14 =>
    (guardK v9 true ((loadV none g14.1 g14.2).bind fun v17 =>
    some (v17, g14.2)) (some (.und, g14.2))).bind fun g16 =>
    (guardK v9 true ((binV .lss g12.1 g16.1).bind fun v19 =>
    some (v19, g16.2)) (some (.und, g16.2))).bind fun g18 =>
    (guardK v9 true (some (g18.1, g18.2)) (some (.und, g18.2))).bind fun g20 =>
    (guardK g20.1 false ((fieldAV 1 (.ip v1 0)).bind fun v22 =>
    some (v22, g20.2)) (some (.und, g20.2))).bind fun g21 =>
    (guardK g20.1 false ((loadV none g21.1 g21.2).bind fun v24 =>
    some (v24, g21.2)) (some (.und, g21.2))).bind fun g23 =>
    (guardK g20.1 false ((fieldAV 2 (.ip v8 0)).bind fun v26 =>
    some (v26, g23.2)) (some (.und, g23.2))).bind fun g25 =>
    (guardK g20.1 false ((loadV none g25.1 g25.2).bind fun v28 =>
    some (v28, g25.2)) (some (.und, g25.2))).bind fun g27 =>
    (guardK g20.1 false ((binV .gtr g23.1 g27.1).bind fun v30 =>
    some (v30, g27.2)) (some (.und, g27.2))).bind fun g29 =>
    (guardK v9 true ((pickV g20.1 (.bool true) g29.1).bind fun v32 =>
    some (v32, g29.2)) (some (.und, g29.2))).bind fun g31 =>
    (pickV v9 g31.1 (.bool false)).bind fun v33 =>
    condK v33
      (finish false n0 [(.int .i64 1)] g31.2)
      (finish false n0 [v7] g31.2)
    else none

theorem c65 {ov : Over} (h : ov 65 = none) (args : List AV) (S : Store) : (Prg.mk T an ov).call 65 args S = F65 (Prg.mk T an ov).call args S :=
  ((Prg.mk T an ov).call_eq 65 args S).trans ((Prg.step_none h).trans (by kernel_rfl))

/-! ### 80 synoptic/synopticref02.On -/
noncomputable def F80 (C : CallEnv) (args : List AV) (S : Store) : Option (AV × Store) :=
  let n0 := S.length
  let t0 := args.getD 0 .u
  let t1 := args.getD 1 .u
  (imms (cellsOf t1)).bind fun v1 =>
  let S2 : Store := S ++ [.obj [(.int .i64 0), (.int .i64 0), (.int .i64 0), (.int .i64 0)]]
  (argVs [t0]).bind fun v3 => (C 97 v3 S2).bind fun v4 =>
  (extractV v4.1 0).bind fun v5 =>
  (extractV v4.1 1).bind fun _v6 =>
  (imms (cellsOf v5)).bind fun v7 => if v7.length = 3 then
    (indexAV 1 (some 3) (.ip v7 0) (.int .i64 0)).bind fun v8 =>
    (loadV none v8 v4.2).bind fun v9 =>
    (indexAV 1 (some 12) (.ip v1 0) v9).bind fun v10 =>
    (loadV none v10 v4.2).bind fun v11 =>
    (indexAV 1 (some 3) (.ip v7 0) (.int .i64 1)).bind fun v12 =>
    (loadV none v12 v4.2).bind fun v13 =>
    (indexAV 1 (some 12) (.ip v1 0) v13).bind fun v14 =>
    (loadV none v14 v4.2).bind fun v15 =>
    (indexAV 1 (some 3) (.ip v7 0) (.int .i64 2)).bind fun v16 =>
    (loadV none v16 v4.2).bind fun v17 =>
    (indexAV 1 (some 12) (.ip v1 0) v17).bind fun v18 =>
    (loadV none v18 v4.2).bind fun v19 =>
    (buildV [(.int .i64 0), (.int .i64 0), (.int .i64 0), (.int .i64 0)] [(0, 1, t0), (1, 1, v11), (2, 1, v15), (3, 1, v19)]).bind fun v20 =>
    (imms (cellsOf v20)).bind fun v21 => if v21.length = 4 then
      (loadV (some 4) (.ip v21 0) v4.2).bind fun v22 =>
      (fieldAV 1 (.ip v21 0)).bind fun v23 =>
      (loadIV none v23).bind fun v24 =>
      (fieldAV 2 (.ip v21 0)).bind fun v25 =>
      (loadIV none v25).bind fun v26 =>
      (binV .add v24 v26).bind fun v27 =>
      (fieldAV 3 (.ip v21 0)).bind fun v28 =>
      (loadIV none v28).bind fun v29 =>
      (binV .add v27 v29).bind fun v30 =>
      (binV .eql v30 (.int .i64 840)).bind fun v31 =>
      (storeV n0 4 (.ptr S.length 0) v22 v4.2).bind fun S32 =>
      ((loadV (some 4) (.ptr S.length 0) S32).bind fun v33 => ((some []).bind fun v37 => some (v31 :: v37)).bind fun v36 => some (v33 :: v36)).bind fun v35 => finish false n0 v35 S32
      else none
    else none

theorem c80 {ov : Over} (h : ov 80 = none) (args : List AV) (S : Store) : (Prg.mk T an ov).call 80 args S = F80 (Prg.mk T an ov).call args S :=
  ((Prg.mk T an ov).call_eq 80 args S).trans ((Prg.step_none h).trans (by kernel_rfl))

/-! ### 97 synoptic/synopticref02.Corners -/
noncomputable def F97 (_C : CallEnv) (args : List AV) (S : Store) : Option (AV × Store) :=
  let n0 := S.length
  let t0 := args.getD 0 .u
  let S1 : Store := S ++ [.obj [(.int .i64 0), (.int .i64 0), (.int .i64 0)]]
  (binV .lss t0 (.int .i64 0)).bind fun v2 =>
  (guardK v2 false (some (t0, S1)) (some (.und, S1))).bind fun g3 =>
  (guardK v2 false ((binV .geq g3.1 (.int .i64 20)).bind fun v5 =>
  some (v5, g3.2)) (some (.und, g3.2))).bind fun g4 =>
  (pickV v2 (.bool true) g4.1).bind fun v6 =>
  condK v6
    ((buildV [(.int .i64 0), (.int .i64 0), (.int .i64 0)] []).bind fun v7 =>
    (storeV n0 3 (.ptr S.length 0) v7 g4.2).bind fun S8 =>
    ((loadV (some 3) (.ptr S.length 0) S8).bind fun v9 => ((some []).bind fun v13 => some ((.int .i64 1) :: v13)).bind fun v12 => some (v9 :: v12)).bind fun v11 => finish false n0 v11 S8)
    ((binV .rem t0 (.int .i64 5)).bind fun v14 =>
    (binV .add v14 (.int .i64 1)).bind fun v15 =>
    (binV .rem v15 (.int .i64 5)).bind fun v16 =>
    (binV .quo t0 (.int .i64 5)).bind fun v17 =>
    (binV .eql v17 (.int .i64 0)).bind fun v18 =>
    condK v18
      ((binV .add (.int .i64 1) v14).bind fun v19 =>
      (binV .add (.int .i64 1) v16).bind fun v20 =>
      (buildV [(.int .i64 0), (.int .i64 0), (.int .i64 0)] [(0, 1, (.int .i64 0)), (1, 1, v19), (2, 1, v20)]).bind fun v21 =>
      (storeV n0 3 (.ptr S.length 0) v21 g4.2).bind fun S22 =>
      ((loadV (some 3) (.ptr S.length 0) S22).bind fun v23 => ((some []).bind fun v27 => some ((.int .i64 0) :: v27)).bind fun v26 => some (v23 :: v26)).bind fun v25 => finish false n0 v25 S22)
      ((binV .eql v17 (.int .i64 1)).bind fun v28 =>
      condK v28
        ((binV .add (.int .i64 1) v14).bind fun v29 =>
        (binV .add (.int .i64 6) v14).bind fun v30 =>
        (binV .add (.int .i64 1) v16).bind fun v31 =>
        (buildV [(.int .i64 0), (.int .i64 0), (.int .i64 0)] [(0, 1, v29), (1, 1, v30), (2, 1, v31)]).bind fun v32 =>
        (storeV n0 3 (.ptr S.length 0) v32 g4.2).bind fun S33 =>
        ((loadV (some 3) (.ptr S.length 0) S33).bind fun v34 => ((some []).bind fun v38 => some ((.int .i64 0) :: v38)).bind fun v37 => some (v34 :: v37)).bind fun v36 => finish false n0 v36 S33)
        ((binV .eql v17 (.int .i64 2)).bind fun v39 =>
        condK v39
          ((binV .add (.int .i64 6) v14).bind fun v40 =>
          (binV .add (.int .i64 6) v16).bind fun v41 =>
          (binV .add (.int .i64 1) v16).bind fun v42 =>
          (buildV [(.int .i64 0), (.int .i64 0), (.int .i64 0)] [(0, 1, v40), (1, 1, v41), (2, 1, v42)]).bind fun v43 =>
          (storeV n0 3 (.ptr S.length 0) v43 g4.2).bind fun S44 =>
          ((loadV (some 3) (.ptr S.length 0) S44).bind fun v45 => ((some []).bind fun v49 => some ((.int .i64 0) :: v49)).bind fun v48 => some (v45 :: v48)).bind fun v47 => finish false n0 v47 S44)
          ((binV .add (.int .i64 6) v16).bind fun v50 =>
          (binV .add (.int .i64 6) v14).bind fun v51 =>
          (buildV [(.int .i64 0), (.int .i64 0), (.int .i64 0)] [(0, 1, (.int .i64 11)), (1, 1, v50), (2, 1, v51)]).bind fun v52 =>
          (storeV n0 3 (.ptr S.length 0) v52 g4.2).bind fun S53 =>
          ((loadV (some 3) (.ptr S.length 0) S53).bind fun v54 => ((some []).bind fun v58 => some ((.int .i64 0) :: v58)).bind fun v57 => some (v54 :: v57)).bind fun v56 => finish false n0 v56 S53))))

theorem c97 {ov : Over} (h : ov 97 = none) (args : List AV) (S : Store) : (Prg.mk T an ov).call 97 args S = F97 (Prg.mk T an ov).call args S :=
  ((Prg.mk T an ov).call_eq 97 args S).trans ((Prg.step_none h).trans (by kernel_rfl))

end Go.Proofs.YtlilahgndpdkfaaDoor

/-
  Printed by a program of this claim (gen.py, mk.py): functions.
-/
namespace Go.Proofs.YtlilahgndpdkfaaDoor
open Go Go.Abs
set_option maxRecDepth 100000
/-! ### 6 synoptic/synopticlaw16.TimelineSpike -/
noncomputable def F6_L1 (C : CallEnv) (n0 : Nat) (_t1 t5 _t6 t8 : AV) (t7 t9 : AV) (S : Store) : Option ((List AV × Store) ⊕ (Ex × List AV × Store)) :=
  let n1 := S.length
  (binV .lss t9 t8).bind fun v9 =>
  condK v9
    ((binV .mul (.int .i64 60) t9).bind fun v10 =>
    (argVs [t5, (.int .i64 (-12)), (.int .i64 12)]).bind fun v11 => (C 23 v11 S).bind fun v12 =>
    (binV .add (.int .i64 10000) v12.1).bind fun v13 =>
    (buildV [(.int .i64 0), (.int .i64 0)] [(0, 1, (.int .i64 1)), (1, 1, v13)]).bind fun v14 =>
    (bsliceV 2 [cellsOf v14]).bind fun v15 =>
    (buildV [(.int .i64 0), (.str []), (.int .i64 0), (.int .i64 0), (.int .i64 0), (.int .i64 0), (.int .i64 0), (.sl [] .full)] [(0, 1, (.int .i64 1)), (1, 1, (.str [65, 76, 80, 72, 65])), (2, 1, v10), (7, 1, v15)]).bind fun v16 =>
    (bsliceV 8 [cellsOf v16]).bind fun v17 =>
    (appendMV 8 t7 v17 v12.2).bind fun v18 =>
    (binV .add t9 (.int .i64 1)).bind fun v19 =>
    (nextS n0 n1 [v18.1, v19] v18.2).bind fun r => some (.inl r))
    (some (.inr (.exit 0, [t7], S)))

noncomputable def F6 (C : CallEnv) (args : List AV) (S : Store) : Option (AV × Store) :=
  let n0 := S.length
  let t0 := args.getD 0 .u
  let t1 := args.getD 1 .u
  (argVs [t0]).bind fun v1 => (C 11 v1 S).bind fun v2 =>
  let S3 : Store := v2.2 ++ [.obj [(.int .i64 0), (.int .i64 0), (.int .i64 0), (.int .i64 0), (.int .i64 0), (.int .i64 0), (.int .i64 0), (.int .i64 0), (.int .i64 0), (.int .i64 0), (.int .i64 0), (.int .i64 0), (.int .i64 0), (.int .i64 0), (.int .i64 0), (.int .i64 0), (.int .i64 0), (.int .i64 0), (.int .i64 0), (.int .i64 0), (.int .i64 0), (.int .i64 0), (.int .i64 0), (.int .i64 0), (.int .i64 0), (.int .i64 0), (.int .i64 0), (.int .i64 0), (.int .i64 0), (.int .i64 0), (.int .i64 0), (.int .i64 0), (.int .i64 0), (.int .i64 0), (.int .i64 0), (.int .i64 0), (.int .i64 0), (.int .i64 0), (.int .i64 0), (.int .i64 0), (.int .i64 0)]]
  (fieldAV 13 (.ptr v2.2.length 0)).bind fun v4 =>
  (indexAV 1 (some 12) v4 (.int .i64 1)).bind fun v5 =>
  (storeV n0 1 v5 (.int .i64 50) S3).bind fun S6 =>
  (argVs [v2.1, (.int .i64 3), (.int .i64 10)]).bind fun v7 => (C 23 v7 S6).bind fun v8 =>
  (iter (fun s => F6_L1 C n0 t1 v2.1 (.ptr v2.2.length 0) v8.1 (s.1.getD 0 .u) (s.1.getD 1 .u) s.2) ([(.sl [] .full), (.int .i64 0)], v8.2)).bind fun r20 => exK none
    (fun i21 => bif Nat.beq i21 0 then ((binV .sub v8.1 (.int .i64 2)).bind fun v22 =>
    (argVs [v2.1, (.int .i64 1), v22]).bind fun v23 => (C 23 v23 r20.2.2).bind fun v24 =>
    (argVs [t1, (.int .i64 800)]).bind fun v25 => (C 22 v25 v24.2).bind fun v26 =>
    (binV .add (.int .i64 100) v26.1).bind fun v27 =>
    (binV .add (.int .i64 10000) v27).bind fun v28 =>
    (buildV [(.int .i64 0), (.int .i64 0)] [(0, 1, (.int .i64 1)), (1, 1, v28)]).bind fun v29 =>
    (bsliceV 2 [cellsOf v29]).bind fun v30 =>
    (disownV v30).bind fun v31 =>
    (indexAV 8 none (r20.2.1.getD 0 .u) v24.1).bind fun v32 =>
    (fieldAV 7 v32).bind fun v33 =>
    (storeV n0 1 v33 v31 v26.2).bind fun S34 =>
    (loadV (some 41) (.ptr v2.2.length 0) S34).bind fun v35 =>
    (argVs [(r20.2.1.getD 0 .u), v35]).bind fun v36 => (C 17 v36 S34).bind fun v37 =>
    (extractV v37.1 0).bind fun v38 =>
    (extractV v37.1 1).bind fun v39 =>
    (indexAV 8 none (r20.2.1.getD 0 .u) v24.1).bind fun v40 =>
    (fieldAV 7 v40).bind fun v41 =>
    (loadV none v41 v37.2).bind fun v42 =>
    (argVs [v42, (.int .i64 1)]).bind fun v43 => (C 24 v43 v37.2).bind fun v44 =>
    (extractV v44.1 0).bind fun v45 =>
    (extractV v44.1 1).bind fun v46 =>
    (binV .eql v39 (.int .i64 0)).bind fun v47 =>
    (guardK v47 true (some (v46, v44.2)) (some (.und, v44.2))).bind fun g48 =>
    (pickV v47 g48.1 (.bool false)).bind fun v49 =>
    (guardK v49 true (some (v45, g48.2)) (some (.und, g48.2))).bind fun g50 =>
    (guardK v49 true (some (v27, g50.2)) (some (.und, g50.2))).bind fun g51 =>
    (guardK v49 true ((binV .add (.int .i64 10000) g51.1).bind fun v53 =>
    some (v53, g51.2)) (some (.und, g51.2))).bind fun g52 =>
    (guardK v49 true ((binV .eql g50.1 g52.1).bind fun v55 =>
    some (v55, g52.2)) (some (.und, g52.2))).bind fun g54 =>
    (pickV v49 g54.1 (.bool false)).bind fun v56 =>
    (guardK v56 true (some (v38, g54.2)) (some (.und, g54.2))).bind fun g57 =>
    (guardK v56 true (some (v24.1, g57.2)) (some (.und, g57.2))).bind fun g58 =>
    (guardK v56 true ((buildV [(.int .i64 0), (.int .i64 0), (.int .i64 0)] [(0, 1, g58.1), (1, 1, (.int .i64 1)), (2, 1, (.int .i64 4))]).bind fun v60 =>
    some (v60, g58.2)) (some (.und, g58.2))).bind fun g59 =>
    (guardK v56 true ((bsliceV 3 [cellsOf g59.1]).bind fun v62 =>
    some (v62, g59.2)) (some (.und, g59.2))).bind fun g61 =>
    (guardK v56 true ((argVs [g57.1, g61.1]).bind fun v64 => (C 19 v64 g61.2).bind fun v65 =>
    some (v65.1, v65.2)) (some (.und, g61.2))).bind fun g63 =>
    (pickV v56 g63.1 (.bool false)).bind fun v66 =>
    (guardK v66 true ((argVs []).bind fun v68 => (C 10 v68 g63.2).bind fun v69 =>
    some (v69.1, v69.2)) (some (.und, g63.2))).bind fun g67 =>
    (pickV v66 g67.1 (.bool false)).bind fun v70 =>
    finish false n0 [v70] g67.2) else (none))
    (finish false n0 [.u] r20.2.2) r20.1

theorem c6 {ov : Over} (h : ov 6 = none) (args : List AV) (S : Store) : (Prg.mk T an ov).call 6 args S = F6 (Prg.mk T an ov).call args S :=
  ((Prg.mk T an ov).call_eq 6 args S).trans ((Prg.step_none h).trans (by kernel_rfl))

/-! ### 10 synoptic/synopticlaw16.awake -/
noncomputable def F10 (C : CallEnv) (_args : List AV) (S : Store) : Option (AV × Store) :=
  let n0 := S.length
  let S1 : Store := S ++ [.obj [(.int .i64 0), (.int .i64 0), (.int .i64 0), (.int .i64 0), (.int .i64 0), (.int .i64 0), (.int .i64 0), (.int .i64 0), (.int .i64 0), (.int .i64 0), (.int .i64 0), (.int .i64 0), (.int .i64 0), (.int .i64 0), (.int .i64 0), (.int .i64 0), (.int .i64 0), (.int .i64 0), (.int .i64 0), (.int .i64 0), (.int .i64 0), (.int .i64 0), (.int .i64 0), (.int .i64 0), (.int .i64 0), (.int .i64 0), (.int .i64 0), (.int .i64 0), (.int .i64 0), (.int .i64 0), (.int .i64 0), (.int .i64 0), (.int .i64 0), (.int .i64 0), (.int .i64 0), (.int .i64 0), (.int .i64 0), (.int .i64 0), (.int .i64 0), (.int .i64 0), (.int .i64 0)]]
  (fieldAV 1 (.ptr S.length 0)).bind fun v2 =>
  (indexAV 1 (some 12) v2 (.int .i64 1)).bind fun v3 =>
  (storeV n0 1 v3 (.int .i64 10) S1).bind fun S4 =>
  (argVs [(.int .i64 10000), (.int .i64 10100), (.int .i64 10001)]).bind fun v5 => ((C 27 v5 S4).bind (still S4)).bind fun v6 =>
  (loadV (some 41) (.ptr S.length 0) S4).bind fun v7 =>
  (argVs [v6, v7]).bind fun v8 => (C 17 v8 S4).bind fun v9 =>
  (extractV v9.1 0).bind fun v10 =>
  (extractV v9.1 1).bind fun v11 =>
  (argVs [(.int .i64 10000), (.int .i64 10100), (.int .i64 10101)]).bind fun v12 => ((C 27 v12 v9.2).bind (still v9.2)).bind fun v13 =>
  (loadV (some 41) (.ptr S.length 0) v9.2).bind fun v14 =>
  (argVs [v13, v14]).bind fun v15 => (C 17 v15 v9.2).bind fun v16 =>
  (extractV v16.1 0).bind fun v17 =>
  (extractV v16.1 1).bind fun v18 =>
  (binV .eql v11 (.int .i64 0)).bind fun v19 =>
  (guardK v19 true (some (v18, v16.2)) (some (.und, v16.2))).bind fun g20 =>
  (guardK v19 true ((binV .eql g20.1 (.int .i64 0)).bind fun v22 =>
  some (v22, g20.2)) (some (.und, g20.2))).bind fun g21 =>
  (pickV v19 g21.1 (.bool false)).bind fun v23 =>
  (guardK v23 true (some (v10, g21.2)) (some (.und, g21.2))).bind fun g24 =>
  (guardK v23 true ((buildV [(.int .i64 0), (.int .i64 0), (.int .i64 0)] [(0, 1, (.int .i64 1)), (1, 1, (.int .i64 1)), (2, 1, (.int .i64 4))]).bind fun v26 =>
  some (v26, g24.2)) (some (.und, g24.2))).bind fun g25 =>
  (guardK v23 true ((bsliceV 3 [cellsOf g25.1]).bind fun v28 =>
  some (v28, g25.2)) (some (.und, g25.2))).bind fun g27 =>
  (guardK v23 true ((argVs [g24.1, g27.1]).bind fun v30 => (C 19 v30 g27.2).bind fun v31 =>
  some (v31.1, v31.2)) (some (.und, g27.2))).bind fun g29 =>
  (pickV v23 g29.1 (.bool false)).bind fun v32 =>
  (guardK v32 true (some (v17, g29.2)) (some (.und, g29.2))).bind fun g33 =>
  (guardK v32 true ((lenV g33.1).bind fun v35 =>
  some (v35, g33.2)) (some (.und, g33.2))).bind fun g34 =>
  (guardK v32 true ((binV .eql g34.1 (.int .i64 0)).bind fun v37 =>
  some (v37, g34.2)) (some (.und, g34.2))).bind fun g36 =>
  (pickV v32 g36.1 (.bool false)).bind fun v38 =>
  finish false n0 [v38] g36.2

theorem c10 {ov : Over} (h : ov 10 = none) (args : List AV) (S : Store) : (Prg.mk T an ov).call 10 args S = F10 (Prg.mk T an ov).call args S :=
  ((Prg.mk T an ov).call_eq 10 args S).trans ((Prg.step_none h).trans (by kernel_rfl))

/-! ### 14 synoptic/synopticdata.Control -/
noncomputable def F14_L1 (C : CallEnv) (n0 : Nat) (t0 _t2 t3 : AV) (t4 : AV) (S : Store) : Option ((List AV × Store) ⊕ (Ex × List AV × Store)) :=
  let n1 := S.length
  (binV .leq t4 (.int .i64 11)).bind fun v19 =>
  condK v19
    ((bsliceV 1 [cellsOf (.int .i64 0), cellsOf (.int .i64 10), cellsOf (.int .i64 30), cellsOf (.int .i64 100), cellsOf (.int .i64 1000)]).bind fun v20 =>
    (argVs [t0, v20]).bind fun v21 => (C 29 v21 S).bind fun v22 =>
    (fieldAV 1 t3).bind fun v23 =>
    (indexAV 1 (some 12) v23 t4).bind fun v24 =>
    (storeV n0 1 v24 v22.1 v22.2).bind fun S25 =>
    (bsliceV 1 [cellsOf (.int .i64 0), cellsOf (.int .i64 20), cellsOf (.int .i64 60), cellsOf (.int .i64 300)]).bind fun v26 =>
    (argVs [t0, v26]).bind fun v27 => (C 29 v27 S25).bind fun v28 =>
    (fieldAV 13 t3).bind fun v29 =>
    (indexAV 1 (some 12) v29 t4).bind fun v30 =>
    (storeV n0 1 v30 v28.1 v28.2).bind fun S31 =>
    (bsliceV 1 [cellsOf (.int .i64 0), cellsOf (.int .i64 5), cellsOf (.int .i64 30), cellsOf (.int .i64 200)]).bind fun v32 =>
    (argVs [t0, v32]).bind fun v33 => (C 29 v33 S31).bind fun v34 =>
    (fieldAV 26 t3).bind fun v35 =>
    (indexAV 1 (some 12) v35 t4).bind fun v36 =>
    (storeV n0 1 v36 v34.1 v34.2).bind fun S37 =>
    (binV .add t4 (.int .i64 1)).bind fun v38 =>
    (nextS n0 n1 [v38] S37).bind fun r => some (.inl r))
    (some (.inr (.exit 0, [], S)))

noncomputable def F14 (C : CallEnv) (args : List AV) (S : Store) : Option (AV × Store) :=
  let n0 := S.length
  let t0 := args.getD 0 .u
  let S1 : Store := S ++ [.obj [(.int .i64 0), (.int .i64 0), (.int .i64 0), (.int .i64 0), (.int .i64 0), (.int .i64 0), (.int .i64 0), (.int .i64 0), (.int .i64 0), (.int .i64 0), (.int .i64 0), (.int .i64 0), (.int .i64 0), (.int .i64 0), (.int .i64 0), (.int .i64 0), (.int .i64 0), (.int .i64 0), (.int .i64 0), (.int .i64 0), (.int .i64 0), (.int .i64 0), (.int .i64 0), (.int .i64 0), (.int .i64 0), (.int .i64 0), (.int .i64 0), (.int .i64 0), (.int .i64 0), (.int .i64 0), (.int .i64 0), (.int .i64 0), (.int .i64 0), (.int .i64 0), (.int .i64 0), (.int .i64 0), (.int .i64 0), (.int .i64 0), (.int .i64 0), (.int .i64 0), (.int .i64 0)]]
  (bsliceV 1 [cellsOf (.int .i64 4), cellsOf (.int .i64 24), cellsOf (.int .i64 100)]).bind fun v2 =>
  (argVs [t0, v2]).bind fun v3 => (C 29 v3 S1).bind fun v4 =>
  (bsliceV 1 [cellsOf (.int .i64 20), cellsOf (.int .i64 40), cellsOf (.int .i64 5)]).bind fun v5 =>
  (argVs [t0, v5]).bind fun v6 => (C 29 v6 v4.2).bind fun v7 =>
  (argVs [t0, (.int .i64 1), (.int .i64 4)]).bind fun v8 => (C 23 v8 v7.2).bind fun v9 =>
  (bsliceV 1 [cellsOf (.int .i64 50), cellsOf (.int .i64 80)]).bind fun v10 =>
  (argVs [t0, v10]).bind fun v11 => (C 29 v11 v9.2).bind fun v12 =>
  (bsliceV 1 [cellsOf (.int .i64 20), cellsOf (.int .i64 50)]).bind fun v13 =>
  (argVs [t0, v13]).bind fun v14 => (C 29 v14 v12.2).bind fun v15 =>
  (buildV [(.int .i64 0), (.int .i64 0), (.int .i64 0), (.int .i64 0), (.int .i64 0), (.int .i64 0), (.int .i64 0), (.int .i64 0), (.int .i64 0), (.int .i64 0), (.int .i64 0), (.int .i64 0), (.int .i64 0), (.int .i64 0), (.int .i64 0), (.int .i64 0), (.int .i64 0), (.int .i64 0), (.int .i64 0), (.int .i64 0), (.int .i64 0), (.int .i64 0), (.int .i64 0), (.int .i64 0), (.int .i64 0), (.int .i64 0), (.int .i64 0), (.int .i64 0), (.int .i64 0), (.int .i64 0), (.int .i64 0), (.int .i64 0), (.int .i64 0), (.int .i64 0), (.int .i64 0), (.int .i64 0), (.int .i64 0), (.int .i64 0), (.int .i64 0), (.int .i64 0), (.int .i64 0)] [(0, 1, v4.1), (25, 1, v7.1), (38, 1, v9.1), (39, 1, v12.1), (40, 1, v15.1)]).bind fun v16 =>
  (cells1 (cellsOf v16)).bind fun v17 => if v17.length = 41 then
    let S18 : Store := v15.2 ++ [.obj v17]
    (iter (fun s => F14_L1 C n0 t0 (.ptr S.length 0) (.ptr v15.2.length 0) (s.1.getD 0 .u) s.2) ([(.int .i64 1)], S18)).bind fun r39 => exK none
      (fun i40 => bif Nat.beq i40 0 then ((loadV (some 41) (.ptr v15.2.length 0) r39.2.2).bind fun v41 =>
      (storeV n0 41 (.ptr S.length 0) v41 r39.2.2).bind fun S42 =>
      ((loadV (some 41) (.ptr S.length 0) S42).bind fun v43 => (some []).bind fun v45 => some (v43 :: v45)).bind fun v44 => finish false n0 v44 S42) else (none))
      (((loadV (some 41) (.ptr S.length 0) r39.2.2).bind fun v46 => (some []).bind fun v48 => some (v46 :: v48)).bind fun v47 => finish false n0 v47 r39.2.2) r39.1
    else none

theorem c14 {ov : Over} (h : ov 14 = none) (args : List AV) (S : Store) : (Prg.mk T an ov).call 14 args S = F14 (Prg.mk T an ov).call args S :=
  ((Prg.mk T an ov).call_eq 14 args S).trans ((Prg.step_none h).trans (by kernel_rfl))

/-! ### 18 synoptic/synopticref16.Check -/
noncomputable def F18_L1 (_C : CallEnv) (n0 : Nat) (_t0 t3 : AV) (t6 : AV) (S : Store) : Option ((List AV × Store) ⊕ (Ex × List AV × Store)) :=
  let n1 := S.length
  (binV .lss t6 (.int .i64 12)).bind fun v2 =>
  condK v2
    ((fieldAV 1 t3).bind fun v3 =>
    (indexAV 1 (some 12) v3 t6).bind fun v4 =>
    (loadV none v4 S).bind fun v5 =>
    (binV .lss v5 (.int .i64 0)).bind fun v6 =>
    (guardK v6 false (some (t6, S)) (some (.und, S))).bind fun g7 =>
    (guardK v6 false ((fieldAV 1 t3).bind fun v9 =>
    some (v9, g7.2)) (some (.und, g7.2))).bind fun g8 =>
    (guardK v6 false ((indexAV 1 (some 12) g8.1 g7.1).bind fun v11 =>
    some (v11, g8.2)) (some (.und, g8.2))).bind fun g10 =>
    (guardK v6 false ((loadV none g10.1 g10.2).bind fun v13 =>
    some (v13, g10.2)) (some (.und, g10.2))).bind fun g12 =>
    (guardK v6 false ((binV .gtr g12.1 (.int .i64 10000)).bind fun v15 =>
    some (v15, g12.2)) (some (.und, g12.2))).bind fun g14 =>
    (pickV v6 (.bool true) g14.1).bind fun v16 =>
    (guardK v16 false (some (t6, g14.2)) (some (.und, g14.2))).bind fun g17 =>
    (guardK v16 false ((fieldAV 13 t3).bind fun v19 =>
    some (v19, g17.2)) (some (.und, g17.2))).bind fun g18 =>
    (guardK v16 false ((indexAV 1 (some 12) g18.1 g17.1).bind fun v21 =>
    some (v21, g18.2)) (some (.und, g18.2))).bind fun g20 =>
    (guardK v16 false ((loadV none g20.1 g20.2).bind fun v23 =>
    some (v23, g20.2)) (some (.und, g20.2))).bind fun g22 =>
    (guardK v16 false ((binV .lss g22.1 (.int .i64 0)).bind fun v25 =>
    some (v25, g22.2)) (some (.und, g22.2))).bind fun g24 =>
    (pickV v16 (.bool true) g24.1).bind fun v26 =>
    (guardK v26 false (some (t6, g24.2)) (some (.und, g24.2))).bind fun g27 =>
    (guardK v26 false ((fieldAV 13 t3).bind fun v29 =>
    some (v29, g27.2)) (some (.und, g27.2))).bind fun g28 =>
    (guardK v26 false ((indexAV 1 (some 12) g28.1 g27.1).bind fun v31 =>
    some (v31, g28.2)) (some (.und, g28.2))).bind fun g30 =>
    (guardK v26 false ((loadV none g30.1 g30.2).bind fun v33 =>
    some (v33, g30.2)) (some (.und, g30.2))).bind fun g32 =>
    (guardK v26 false ((binV .gtr g32.1 (.int .i64 10000)).bind fun v35 =>
    some (v35, g32.2)) (some (.und, g32.2))).bind fun g34 =>
    (pickV v26 (.bool true) g34.1).bind fun v36 =>
    condK v36
      (some (.inr (.ret, [(.sl [] .full), (.int .i64 1)], g34.2)))
      ((binV .add t6 (.int .i64 1)).bind fun v37 =>
      (nextS n0 n1 [v37] g34.2).bind fun r => some (.inl r)))
    (some (.inr (.exit 0, [.u, .u], S)))

noncomputable def F18_L2 (C : CallEnv) (n0 : Nat) (_t0 _t3 t52 t53 : AV) (t54 : AV) (S : Store) : Option ((List AV × Store) ⊕ (Ex × List AV × Store)) :=
  let n2 := S.length
  (binV .lss t54 t53).bind fun v41 =>
  condK v41
    ((indexAV 8 none t52 t54).bind fun v42 =>
    (loadV (some 8) v42 S).bind fun v43 =>
    (imms (cellsOf v43)).bind fun v44 => if v44.length = 8 then
      (fieldAV 7 (.ip v44 0)).bind fun v45 =>
      (loadV none v45 S).bind fun v46 =>
      (argVs [v46]).bind fun v47 => (C 25 v47 S).bind fun v48 =>
      (binV .neq v48.1 (.int .i64 0)).bind fun v49 =>
      condK v49
        (some (.inr (.ret, [(.sl [] .full), v48.1], v48.2)))
        ((binV .add t54 (.int .i64 1)).bind fun v50 =>
        (nextS n0 n2 [v50] v48.2).bind fun r => some (.inl r))
      else none)
    (some (.inr (.exit 2, [.u, .u], S)))

noncomputable def F18_L3 (C : CallEnv) (n0 : Nat) (_t0 _t3 t65 t66 : AV) (t67 : AV) (S : Store) : Option ((List AV × Store) ⊕ (Ex × List AV × Store)) :=
  let n3 := S.length
  (binV .lss t67 t66).bind fun v54 =>
  condK v54
    ((indexAV 8 none t65 t67).bind fun v55 =>
    (loadV (some 8) v55 S).bind fun v56 =>
    (imms (cellsOf v56)).bind fun v57 => if v57.length = 8 then
      (fieldAV 2 (.ip v57 0)).bind fun v58 =>
      (loadV none v58 S).bind fun v59 =>
      (argVs [v59]).bind fun v60 => (C 41 v60 S).bind fun v61 =>
      (unV .not v61.1).bind fun v62 =>
      condK v62
        (some (.inr (.ret, [(.sl [] .full), (.int .i64 1)], v61.2)))
        ((binV .add t67 (.int .i64 1)).bind fun v63 =>
        (nextS n0 n3 [v63] v61.2).bind fun r => some (.inl r))
      else none)
    (some (.inr (.exit 4, [.u, .u], S)))

noncomputable def F18_L5 (_C : CallEnv) (n0 : Nat) (t0 t12 _t78 : AV) (t13 : AV) (S : Store) : Option ((List AV × Store) ⊕ (Ex × List AV × Store)) :=
  let n5 := S.length
  (binV .lss t13 t12).bind fun v68 =>
  condK v68
    ((indexAV 8 none t0 t12).bind fun v69 =>
    (fieldAV 1 v69).bind fun v70 =>
    (loadV none v70 S).bind fun v71 =>
    (indexAV 8 none t0 t13).bind fun v72 =>
    (fieldAV 1 v72).bind fun v73 =>
    (loadV none v73 S).bind fun v74 =>
    (binV .eql v71 v74).bind fun v75 =>
    (guardK v75 true (some (t0, S)) (some (.und, S))).bind fun g76 =>
    (guardK v75 true (some (t12, g76.2)) (some (.und, g76.2))).bind fun g77 =>
    (guardK v75 true ((indexAV 8 none g76.1 g77.1).bind fun v79 =>
    some (v79, g77.2)) (some (.und, g77.2))).bind fun g78 =>
    (guardK v75 true ((fieldAV 2 g78.1).bind fun v81 =>
    some (v81, g78.2)) (some (.und, g78.2))).bind fun g80 =>
    (guardK v75 true ((loadV none g80.1 g80.2).bind fun v83 =>
    some (v83, g80.2)) (some (.und, g80.2))).bind fun g82 =>
    (guardK v75 true (some (t0, g82.2)) (some (.und, g82.2))).bind fun g84 =>
    (guardK v75 true (some (t13, g84.2)) (some (.und, g84.2))).bind fun g85 =>
    (guardK v75 true ((indexAV 8 none g84.1 g85.1).bind fun v87 =>
    some (v87, g85.2)) (some (.und, g85.2))).bind fun g86 =>
    (guardK v75 true ((fieldAV 2 g86.1).bind fun v89 =>
    some (v89, g86.2)) (some (.und, g86.2))).bind fun g88 =>
    (guardK v75 true ((loadV none g88.1 g88.2).bind fun v91 =>
    some (v91, g88.2)) (some (.und, g88.2))).bind fun g90 =>
    (guardK v75 true ((binV .eql g82.1 g90.1).bind fun v93 =>
    some (v93, g90.2)) (some (.und, g90.2))).bind fun g92 =>
    (pickV v75 g92.1 (.bool false)).bind fun v94 =>
    condK v94
      (some (.inr (.ret, [(.sl [] .full), (.int .i64 5)], g92.2)))
      ((binV .add t13 (.int .i64 1)).bind fun v95 =>
      (nextS n0 n5 [v95] g92.2).bind fun r => some (.inl r)))
    (some (.inr (.exit 8, [.u, .u], S)))

noncomputable def F18_L4 (C : CallEnv) (n0 : Nat) (t0 _t3 t77 : AV) (t78 : AV) (S : Store) : Option ((List AV × Store) ⊕ (Ex × List AV × Store)) :=
  let n4 := S.length
  (binV .lss t78 t77).bind fun v67 =>
  condK v67
    ((iter (fun s => F18_L5 C n0 t0 t78 t78 (s.1.getD 0 .u) s.2) ([(.int .i64 0)], S)).bind fun r96 => exK none
      (fun i97 => bif Nat.beq i97 8 then ((binV .add t78 (.int .i64 1)).bind fun v98 =>
      (nextS n0 n4 [v98] r96.2.2).bind fun r => some (.inl r)) else (bif Nat.beq i97 7 then ((binV .add t78 (.int .i64 1)).bind fun v99 =>
      (nextS n0 n4 [v99] r96.2.2).bind fun r => some (.inl r)) else (some (.inr (.exit i97, [(r96.2.1.getD 0 .u), (r96.2.1.getD 1 .u)], r96.2.2)))))
      (some (.inr (.ret, [(r96.2.1.getD 0 .u), (r96.2.1.getD 1 .u)], r96.2.2))) r96.1)
    (some (.inr (.exit 6, [.u, .u], S)))

noncomputable def F18_J1 (_C : CallEnv) (n0 : Nat) (n8 : Nat) (t14 t145 : AV) (S : Store) : Option ((List AV × Store) ⊕ (Ex × List AV × Store)) :=
  (binV .add t145 (.int .i64 1)).bind fun v152 =>
  (nextS n0 n8 [t14, v152] S).bind fun r => some (.inl r)

noncomputable def F18_L8 (C : CallEnv) (n0 : Nat) (t15 t18 t19 t20 _t121 t144 : AV) (t14 t145 : AV) (S : Store) : Option ((List AV × Store) ⊕ (Ex × List AV × Store)) :=
  let n8 := S.length
  (binV .lss t145 t144).bind fun v134 =>
  condK v134
    ((indexAV 3 none t19 t145).bind fun v135 =>
    (fieldAV 0 v135).bind fun v136 =>
    (loadV none v136 S).bind fun v137 =>
    (binV .eql v137 t15).bind fun v138 =>
    (guardK v138 true (some (t20, S)) (some (.und, S))).bind fun g139 =>
    (guardK v138 true (some (t145, g139.2)) (some (.und, g139.2))).bind fun g140 =>
    (guardK v138 true ((indexAV 1 none g139.1 g140.1).bind fun v142 =>
    some (v142, g140.2)) (some (.und, g140.2))).bind fun g141 =>
    (guardK v138 true ((loadV none g141.1 g141.2).bind fun v144 =>
    some (v144, g141.2)) (some (.und, g141.2))).bind fun g143 =>
    (pickV v138 g143.1 (.bool false)).bind fun v145 =>
    condK v145
      ((fieldAV 0 t18).bind fun v146 =>
      (loadV none v146 g143.2).bind fun v147 =>
      (buildV [(.int .i64 0), (.int .i64 0), (.int .i64 0)] [(0, 1, t15), (1, 1, v147), (2, 1, (.int .i64 4))]).bind fun v148 =>
      (bsliceV 3 [cellsOf v148]).bind fun v149 =>
      (appendV 3 t14 v149 g143.2).bind fun v150 =>
      (ownV 3 v150.1 v150.2).bind fun v151 =>
      F18_J1 C n0 n8 v151.1 t145 v151.2)
      (F18_J1 C n0 n8 t14 t145 g143.2))
    (some (.inr (.exit 14, [t14], S)))

noncomputable def F18_L7 (C : CallEnv) (n0 : Nat) (t0 t3 t15 t16 _t113 t119 t120 : AV) (t14 t121 : AV) (S : Store) : Option ((List AV × Store) ⊕ (Ex × List AV × Store)) :=
  let n7 := S.length
  (binV .lss t121 t120).bind fun v111 =>
  condK v111
    ((indexAV 2 none t119 t121).bind fun v112 =>
    (loadV (some 2) v112 S).bind fun v113 =>
    (imms (cellsOf v113)).bind fun v114 => if v114.length = 2 then
      (fieldAV 1 t16).bind fun v115 =>
      (loadV none v115 S).bind fun v116 =>
      (fieldAV 0 (.ip v114 0)).bind fun v117 =>
      (loadV none v117 S).bind fun v118 =>
      (argVs [t0, v116, v118]).bind fun v119 => (C 42 v119 S).bind fun v120 =>
      (fieldAV 0 (.ip v114 0)).bind fun v121 =>
      (loadV none v121 v120.2).bind fun v122 =>
      (fieldAV 1 t3).bind fun v123 =>
      (indexAV 1 (some 12) v123 v122).bind fun v124 =>
      (loadV none v124 v120.2).bind fun v125 =>
      (fieldAV 0 (.ip v114 0)).bind fun v126 =>
      (loadV none v126 v120.2).bind fun v127 =>
      (fieldAV 13 t3).bind fun v128 =>
      (indexAV 1 (some 12) v128 v127).bind fun v129 =>
      (loadV none v129 v120.2).bind fun v130 =>
      (argVs [v120.1, v125, v130]).bind fun v131 => (C 43 v131 v120.2).bind fun v132 =>
      (lenV v120.1).bind fun v133 =>
      (iter (fun s => F18_L8 C n0 t15 (.ip v114 0) v120.1 v132.1 t121 v133 (s.1.getD 0 .u) (s.1.getD 1 .u) s.2) ([t14, (.int .i64 0)], v132.2)).bind fun r153 => exK none
        (fun i154 => bif Nat.beq i154 14 then ((binV .add t121 (.int .i64 1)).bind fun v155 =>
        (nextS n0 n7 [(r153.2.1.getD 0 .u), v155] r153.2.2).bind fun r => some (.inl r)) else (bif Nat.beq i154 13 then ((binV .add t121 (.int .i64 1)).bind fun v156 =>
        (nextS n0 n7 [(r153.2.1.getD 0 .u), v156] r153.2.2).bind fun r => some (.inl r)) else (some (.inr (.exit i154, [(r153.2.1.getD 0 .u)], r153.2.2)))))
        (some (.inr (.ret, [(r153.2.1.getD 0 .u)], r153.2.2))) r153.1
      else none)
    (some (.inr (.exit 12, [t14], S)))

noncomputable def F18_L6 (C : CallEnv) (n0 : Nat) (t0 t3 t111 t112 : AV) (t14 t113 : AV) (S : Store) : Option ((List AV × Store) ⊕ (Ex × List AV × Store)) :=
  let n6 := S.length
  (binV .lss t113 t112).bind fun v104 =>
  condK v104
    ((indexAV 8 none t111 t113).bind fun v105 =>
    (loadV (some 8) v105 S).bind fun v106 =>
    (imms (cellsOf v106)).bind fun v107 => if v107.length = 8 then
      (fieldAV 7 (.ip v107 0)).bind fun v108 =>
      (loadV none v108 S).bind fun v109 =>
      (lenV v109).bind fun v110 =>
      (iter (fun s => F18_L7 C n0 t0 t3 t113 (.ip v107 0) t113 v109 v110 (s.1.getD 0 .u) (s.1.getD 1 .u) s.2) ([t14, (.int .i64 0)], S)).bind fun r157 => exK none
        (fun i158 => bif Nat.beq i158 12 then ((binV .add t113 (.int .i64 1)).bind fun v159 =>
        (nextS n0 n6 [(r157.2.1.getD 0 .u), v159] r157.2.2).bind fun r => some (.inl r)) else (bif Nat.beq i158 11 then ((binV .add t113 (.int .i64 1)).bind fun v160 =>
        (nextS n0 n6 [(r157.2.1.getD 0 .u), v160] r157.2.2).bind fun r => some (.inl r)) else (some (.inr (.exit i158, [(r157.2.1.getD 0 .u)], r157.2.2)))))
        (some (.inr (.ret, [(r157.2.1.getD 0 .u)], r157.2.2))) r157.1
      else none)
    (some (.inr (.exit 10, [t14], S)))

noncomputable def F18 (C : CallEnv) (args : List AV) (S : Store) : Option (AV × Store) :=
  let n0 := S.length
  let t0 := args.getD 0 .u
  let t1 := args.getD 1 .u
  (imms (cellsOf t1)).bind fun v1 =>
  (iter (fun s => F18_L1 C n0 t0 (.ip v1 0) (s.1.getD 0 .u) s.2) ([(.int .i64 0)], S)).bind fun r38 => exK none
    (fun i39 => bif Nat.beq i39 0 then ((lenV t0).bind fun v40 =>
    (iter (fun s => F18_L2 C n0 t0 (.ip v1 0) t0 v40 (s.1.getD 0 .u) s.2) ([(.int .i64 0)], r38.2.2)).bind fun r51 => exK none
      (fun i52 => bif Nat.beq i52 2 then ((lenV t0).bind fun v53 =>
      (iter (fun s => F18_L3 C n0 t0 (.ip v1 0) t0 v53 (s.1.getD 0 .u) s.2) ([(.int .i64 0)], r51.2.2)).bind fun r64 => exK none
        (fun i65 => bif Nat.beq i65 4 then ((lenV t0).bind fun v66 =>
        (iter (fun s => F18_L4 C n0 t0 (.ip v1 0) v66 (s.1.getD 0 .u) s.2) ([(.int .i64 0)], r64.2.2)).bind fun r100 => exK none
          (fun i101 => bif Nat.beq i101 6 then ((ownV 3 (.sl [] .full) r100.2.2).bind fun v102 =>
          (lenV t0).bind fun v103 =>
          (iter (fun s => F18_L6 C n0 t0 (.ip v1 0) t0 v103 (s.1.getD 0 .u) (s.1.getD 1 .u) s.2) ([v102.1, (.int .i64 0)], v102.2)).bind fun r161 => exK none
            (fun i162 => bif Nat.beq i162 10 then (finish false n0 [(r161.2.1.getD 0 .u), (.int .i64 0)] r161.2.2) else (none))
            (finish false n0 [.u, .u] r161.2.2) r161.1) else (none))
          (finish false n0 [(r100.2.1.getD 0 .u), (r100.2.1.getD 1 .u)] r100.2.2) r100.1) else (none))
        (finish false n0 [(r64.2.1.getD 0 .u), (r64.2.1.getD 1 .u)] r64.2.2) r64.1) else (none))
      (finish false n0 [(r51.2.1.getD 0 .u), (r51.2.1.getD 1 .u)] r51.2.2) r51.1) else (none))
    (finish false n0 [(r38.2.1.getD 0 .u), (r38.2.1.getD 1 .u)] r38.2.2) r38.1

theorem c18 {ov : Over} (h : ov 18 = none) (args : List AV) (S : Store) : (Prg.mk T an ov).call 18 args S = F18 (Prg.mk T an ov).call args S :=
  ((Prg.mk T an ov).call_eq 18 args S).trans ((Prg.step_none h).trans (by kernel_rfl))

/-! ### 22 synoptic/synoptickeep.Mod -/
noncomputable def F22_J1 (_C : CallEnv) (n0 : Nat) (t0 : AV) (S : Store) : Option (AV × Store) :=
  finish false n0 [t0] S

noncomputable def F22 (C : CallEnv) (args : List AV) (S : Store) : Option (AV × Store) :=
  let n0 := S.length
  let t0 := args.getD 0 .u
  let t1 := args.getD 1 .u
  (binV .lss t1 (.int .i64 1)).bind fun v1 =>
  condK v1
    (finish false n0 [(.int .i64 0)] S)
    ((binV .rem t0 t1).bind fun v2 =>
    (binV .lss v2 (.int .i64 0)).bind fun v3 =>
    condK v3
      ((binV .add v2 t1).bind fun v4 =>
      F22_J1 C n0 v4 S)
      (F22_J1 C n0 v2 S))

theorem c22 {ov : Over} (h : ov 22 = none) (args : List AV) (S : Store) : (Prg.mk T an ov).call 22 args S = F22 (Prg.mk T an ov).call args S :=
  ((Prg.mk T an ov).call_eq 22 args S).trans ((Prg.step_none h).trans (by kernel_rfl))

/-! ### 26 synoptic/synopticdata.Small -/
noncomputable def F26 (_C : CallEnv) (args : List AV) (S : Store) : Option (AV × Store) :=
  let n0 := S.length
  let t0 := args.getD 0 .u
  (imms (cellsOf t0)).bind fun v1 =>
  (fieldAV 1 (.ip v1 0)).bind fun v2 =>
  (loadV none v2 S).bind fun v3 =>
  (lenSV v3).bind fun v4 =>
  (binV .leq v4 (.int .i64 40)).bind fun v5 =>
  (guardK v5 true ((fieldAV 7 (.ip v1 0)).bind fun v7 =>
  some (v7, S)) (some (.und, S))).bind fun g6 =>
  (guardK v5 true ((loadV none g6.1 g6.2).bind fun v9 =>
  some (v9, g6.2)) (some (.und, g6.2))).bind fun g8 =>
  (guardK v5 true ((lenV g8.1).bind fun v11 =>
  some (v11, g8.2)) (some (.und, g8.2))).bind fun g10 =>
  (guardK v5 true ((binV .leq g10.1 (.int .i64 40)).bind fun v13 =>
  some (v13, g10.2)) (some (.und, g10.2))).bind fun g12 =>
  (pickV v5 g12.1 (.bool false)).bind fun v14 =>
  finish false n0 [v14] g12.2

theorem c26 {ov : Over} (h : ov 26 = none) (args : List AV) (S : Store) : (Prg.mk T an ov).call 26 args S = F26 (Prg.mk T an ov).call args S :=
  ((Prg.mk T an ov).call_eq 26 args S).trans ((Prg.step_none h).trans (by kernel_rfl))

/-! ### 30 synoptic/synopticdata.clamp -/
noncomputable def F30 (_C : CallEnv) (args : List AV) (S : Store) : Option (AV × Store) :=
  let n0 := S.length
  let t0 := args.getD 0 .u
  let t1 := args.getD 1 .u
  (buildV [(.int .i64 0), (.int .i64 0)] [(0, 1, (.int .i64 0)), (1, 1, (.int .i64 0))]).bind fun v1 =>
  (buildV [(.int .i64 0), (.int .i64 0)] [(0, 1, (.int .i64 8000)), (1, 1, (.int .i64 11000))]).bind fun v2 =>
  (buildV [(.int .i64 0), (.int .i64 0)] [(0, 1, (.int .i64 1800)), (1, 1, (.int .i64 3300))]).bind fun v3 =>
  (buildV [(.int .i64 0), (.int .i64 0)] [(0, 1, (.int .i64 1800)), (1, 1, (.int .i64 3300))]).bind fun v4 =>
  (buildV [(.int .i64 0), (.int .i64 0)] [(0, 1, (.int .i64 (-1000))), (1, 1, (.int .i64 1000))]).bind fun v5 =>
  (buildV [(.int .i64 0), (.int .i64 0)] [(0, 1, (.int .i64 (-1000))), (1, 1, (.int .i64 1000))]).bind fun v6 =>
  (buildV [(.int .i64 0), (.int .i64 0)] [(0, 1, (.int .i64 900)), (1, 1, (.int .i64 1700))]).bind fun v7 =>
  (buildV [(.int .i64 0), (.int .i64 0)] [(0, 1, (.int .i64 2000)), (1, 1, (.int .i64 3200))]).bind fun v8 =>
  (buildV [(.int .i64 0), (.int .i64 0)] [(0, 1, (.int .i64 2400)), (1, 1, (.int .i64 3400))]).bind fun v9 =>
  (buildV [(.int .i64 0), (.int .i64 0)] [(0, 1, (.int .i64 2000)), (1, 1, (.int .i64 3000))]).bind fun v10 =>
  (buildV [(.int .i64 0), (.int .i64 0)] [(0, 1, (.int .i64 4400)), (1, 1, (.int .i64 6200))]).bind fun v11 =>
  (buildV [(.int .i64 0), (.int .i64 0)] [(0, 1, (.int .i64 2000)), (1, 1, (.int .i64 2900))]).bind fun v12 =>
  (bsliceV 2 [cellsOf v1, cellsOf v2, cellsOf v3, cellsOf v4, cellsOf v5, cellsOf v6, cellsOf v7, cellsOf v8, cellsOf v9, cellsOf v10, cellsOf v11, cellsOf v12]).bind fun v13 =>
  (indexAV 2 none v13 t0).bind fun v14 =>
  (loadV (some 2) v14 S).bind fun v15 =>
  (imms (cellsOf v15)).bind fun v16 => if v16.length = 2 then
    (indexAV 1 (some 2) (.ip v16 0) (.int .i64 0)).bind fun v17 =>
    (loadV none v17 S).bind fun v18 =>
    (indexAV 1 (some 2) (.ip v16 0) (.int .i64 1)).bind fun v19 =>
    (loadV none v19 S).bind fun v20 =>
    (minmaxV false [v20, t1]).bind fun v21 =>
    (minmaxV true [v18, v21]).bind fun v22 =>
    finish false n0 [v22] S
    else none

theorem c30 {ov : Over} (h : ov 30 = none) (args : List AV) (S : Store) : (Prg.mk T an ov).call 30 args S = F30 (Prg.mk T an ov).call args S :=
  ((Prg.mk T an ov).call_eq 30 args S).trans ((Prg.step_none h).trans (by kernel_rfl))

/-! ### 34 synoptic/timeline.lines -/
noncomputable def F34_L2 (_C : CallEnv) (n0 : Nat) (t3 t4 t5 _t14 t20 t21 : AV) (t22 : AV) (S : Store) : Option ((List AV × Store) ⊕ (Ex × List AV × Store)) :=
  let n2 := S.length
  (binV .lss t22 t21).bind fun v10 =>
  condK v10
    ((indexAV 2 none t20 t22).bind fun v11 =>
    (loadV (some 2) v11 S).bind fun v12 =>
    (imms (cellsOf v12)).bind fun v13 => if v13.length = 2 then
      (fieldAV 1 t5).bind fun v14 =>
      (loadV none v14 S).bind fun v15 =>
      (fieldAV 0 (.ip v13 0)).bind fun v16 =>
      (loadV none v16 S).bind fun v17 =>
      (buildV [(.str []), (.int .i64 0)] [(0, 1, v15), (1, 1, v17)]).bind fun v18 =>
      (imms (cellsOf v18)).bind fun v19 => if v19.length = 2 then
        (loadV (some 2) (.ip v19 0) S).bind fun v20 =>
        (fieldAV 2 t5).bind fun v21 =>
        (loadV none v21 S).bind fun v22 =>
        (fieldAV 1 (.ip v13 0)).bind fun v23 =>
        (loadV none v23 S).bind fun v24 =>
        (buildV [(.int .i64 0), (.int .i64 0), (.int .i64 0)] [(0, 1, t4), (1, 1, v22), (2, 1, v24)]).bind fun v25 =>
        (bsliceV 3 [cellsOf v25]).bind fun v26 =>
        (mapEntryV (.sl [] .full) true [1, 0] t3 v20 S).bind fun v27 =>
        (extractV v27.1 0).bind fun v28 =>
        (appendMV 3 v28 v26 v27.2).bind fun v29 =>
        (extractV v27.1 1).bind fun v30 =>
        (entryStoreV n0 t3 v30 v29.1 v29.2).bind fun S31 =>
        (binV .add t22 (.int .i64 1)).bind fun v32 =>
        (nextS n0 n2 [v32] S31).bind fun r => some (.inl r)
        else none
      else none)
    (some (.inr (.exit 2, [], S)))

noncomputable def F34_L1 (C : CallEnv) (n0 : Nat) (t3 t12 t13 : AV) (t14 : AV) (S : Store) : Option ((List AV × Store) ⊕ (Ex × List AV × Store)) :=
  let n1 := S.length
  (binV .lss t14 t13).bind fun v3 =>
  condK v3
    ((indexAV 8 none t12 t14).bind fun v4 =>
    (loadV (some 8) v4 S).bind fun v5 =>
    (imms (cellsOf v5)).bind fun v6 => if v6.length = 8 then
      (fieldAV 7 (.ip v6 0)).bind fun v7 =>
      (loadV none v7 S).bind fun v8 =>
      (lenV v8).bind fun v9 =>
      (iter (fun s => F34_L2 C n0 t3 t14 (.ip v6 0) t14 v8 v9 (s.1.getD 0 .u) s.2) ([(.int .i64 0)], S)).bind fun r33 => exK none
        (fun i34 => bif Nat.beq i34 2 then ((binV .add t14 (.int .i64 1)).bind fun v35 =>
        (nextS n0 n1 [v35] r33.2.2).bind fun r => some (.inl r)) else (bif Nat.beq i34 1 then ((binV .add t14 (.int .i64 1)).bind fun v36 =>
        (nextS n0 n1 [v36] r33.2.2).bind fun r => some (.inl r)) else (some (.inr (.exit i34, [], r33.2.2)))))
        (some (.inr (.ret, [], r33.2.2))) r33.1
      else none)
    (some (.inr (.exit 0, [], S)))

noncomputable def F34 (C : CallEnv) (args : List AV) (S : Store) : Option (AV × Store) :=
  let n0 := S.length
  let t0 := args.getD 0 .u
  let S1 : Store := S ++ [.map []]
  (lenV t0).bind fun v2 =>
  (iter (fun s => F34_L1 C n0 (.map S.length) t0 v2 (s.1.getD 0 .u) s.2) ([(.int .i64 0)], S1)).bind fun r37 => exK none
    (fun i38 => bif Nat.beq i38 0 then ((rangeV (.map S.length) r37.2.2).bind fun v39 =>
    rangeK v39.1 (fun w43 w44 v40 S41 K42 =>
      condK w44
        ((entryV v39.1 S41).bind fun v45 =>
        (extractV v45 1).bind fun v46 =>
        (argVs [v46, (.clo 52 [])]).bind fun v47 => (C 51 v47 S41).bind fun v48 =>
        K42 [] v48.2)
        (finish false n0 [(.map S.length)] S41)) (leftI v39.1 v39.2) [] v39.2) else (none))
    (finish false n0 [.u] r37.2.2) r37.1

theorem c34 {ov : Over} (h : ov 34 = none) (args : List AV) (S : Store) : (Prg.mk T an ov).call 34 args S = F34 (Prg.mk T an ov).call args S :=
  ((Prg.mk T an ov).call_eq 34 args S).trans ((Prg.step_none h).trans (by kernel_rfl))

/-! ### 39 cmp.Or[int] -/
noncomputable def F39_L1 (_C : CallEnv) (n0 : Nat) (t3 t6 t7 : AV) (t8 : AV) (S : Store) : Option ((List AV × Store) ⊕ (Ex × List AV × Store)) :=
  let n1 := S.length
  (binV .lss t8 t7).bind fun v2 =>
  condK v2
    ((indexAV 1 none t6 t8).bind fun v3 =>
    (loadV none v3 S).bind fun v4 =>
    (binV .neq v4 t3).bind fun v5 =>
    condK v5
      (some (.inr (.ret, [v4], S)))
      ((binV .add t8 (.int .i64 1)).bind fun v6 =>
      (nextS n0 n1 [v6] S).bind fun r => some (.inl r)))
    (some (.inr (.exit 0, [.u], S)))

noncomputable def F39 (C : CallEnv) (args : List AV) (S : Store) : Option (AV × Store) :=
  let n0 := S.length
  let t0 := args.getD 0 .u
  (lenV t0).bind fun v1 =>
  (iter (fun s => F39_L1 C n0 (.int .i64 0) t0 v1 (s.1.getD 0 .u) s.2) ([(.int .i64 0)], S)).bind fun r7 => exK none
    (fun i8 => bif Nat.beq i8 0 then (finish false n0 [(.int .i64 0)] r7.2.2) else (none))
    (finish false n0 [(r7.2.1.getD 0 .u)] r7.2.2) r7.1

theorem c39 {ov : Over} (h : ov 39 = none) (args : List AV) (S : Store) : (Prg.mk T an ov).call 39 args S = F39 (Prg.mk T an ov).call args S :=
  ((Prg.mk T an ov).call_eq 39 args S).trans ((Prg.step_none h).trans (by kernel_rfl))

/-! ### 43 synoptic/synopticref16.rejected -/
noncomputable def F43_J1 (_C : CallEnv) (n0 : Nat) (n1 : Nat) (t8 t9 : AV) (S : Store) : Option ((List AV × Store) ⊕ (Ex × List AV × Store)) :=
  (binV .add t9 (.int .i64 1)).bind fun v45 =>
  (nextS n0 n1 [t8, v45] S).bind fun r => some (.inl r)

noncomputable def F43_L1 (C : CallEnv) (n0 : Nat) (t0 t1 _t2 t7 : AV) (t8 t9 : AV) (S : Store) : Option ((List AV × Store) ⊕ (Ex × List AV × Store)) :=
  let n1 := S.length
  (lenV t0).bind fun v3 =>
  (binV .lss t9 v3).bind fun v4 =>
  (guardK v4 true (some (t1, S)) (some (.und, S))).bind fun g5 =>
  (guardK v4 true ((binV .gtr g5.1 (.int .i64 0)).bind fun v7 =>
  some (v7, g5.2)) (some (.und, g5.2))).bind fun g6 =>
  (pickV v4 g6.1 (.bool false)).bind fun v8 =>
  condK v8
    ((indexAV 3 none t0 t8).bind fun v9 =>
    (loadV (some 3) v9 g6.2).bind fun v10 =>
    (indexAV 3 none t0 t9).bind fun v11 =>
    (loadV (some 3) v11 g6.2).bind fun v12 =>
    (argVs [v10, v12, t1]).bind fun v13 => (C 58 v13 g6.2).bind fun v14 =>
    (guardK v14.1 false (some (t9, v14.2)) (some (.und, v14.2))).bind fun g15 =>
    (guardK v14.1 false ((binV .add g15.1 (.int .i64 1)).bind fun v17 =>
    some (v17, g15.2)) (some (.und, g15.2))).bind fun g16 =>
    (guardK v14.1 false (some (t0, g16.2)) (some (.und, g16.2))).bind fun g18 =>
    (guardK v14.1 false ((lenV g18.1).bind fun v20 =>
    some (v20, g18.2)) (some (.und, g18.2))).bind fun g19 =>
    (guardK v14.1 false ((binV .lss g16.1 g19.1).bind fun v22 =>
    some (v22, g19.2)) (some (.und, g19.2))).bind fun g21 =>
    (guardK v14.1 false (some (g21.1, g21.2)) (some (.und, g21.2))).bind fun g23 =>
    (guardK g23.1 true (some (t0, g23.2)) (some (.und, g23.2))).bind fun g24 =>
    (guardK g23.1 true (some (t9, g24.2)) (some (.und, g24.2))).bind fun g25 =>
    (guardK g23.1 true ((indexAV 3 none g24.1 g25.1).bind fun v27 =>
    some (v27, g25.2)) (some (.und, g25.2))).bind fun g26 =>
    (guardK g23.1 true ((loadV (some 3) g26.1 g26.2).bind fun v29 =>
    some (v29, g26.2)) (some (.und, g26.2))).bind fun g28 =>
    (guardK g23.1 true (some (t0, g28.2)) (some (.und, g28.2))).bind fun g30 =>
    (guardK g23.1 true (some (t9, g30.2)) (some (.und, g30.2))).bind fun g31 =>
    (guardK g23.1 true ((binV .add g31.1 (.int .i64 1)).bind fun v33 =>
    some (v33, g31.2)) (some (.und, g31.2))).bind fun g32 =>
    (guardK g23.1 true ((indexAV 3 none g30.1 g32.1).bind fun v35 =>
    some (v35, g32.2)) (some (.und, g32.2))).bind fun g34 =>
    (guardK g23.1 true ((loadV (some 3) g34.1 g34.2).bind fun v37 =>
    some (v37, g34.2)) (some (.und, g34.2))).bind fun g36 =>
    (guardK g23.1 true (some (t1, g36.2)) (some (.und, g36.2))).bind fun g38 =>
    (guardK g23.1 true ((argVs [g28.1, g36.1, g38.1]).bind fun v40 => (C 58 v40 g38.2).bind fun v41 =>
    some (v41.1, v41.2)) (some (.und, g38.2))).bind fun g39 =>
    (guardK v14.1 false ((pickV g23.1 g39.1 (.bool false)).bind fun v43 =>
    some (v43, g39.2)) (some (.und, g39.2))).bind fun g42 =>
    (pickV v14.1 (.bool true) g42.1).bind fun v44 =>
    condK v44
      (F43_J1 C n0 n1 t9 t9 g42.2)
      ((indexAV 1 none t7 t9).bind fun v46 =>
      (storeV n0 1 v46 (.bool true) g42.2).bind fun S47 =>
      F43_J1 C n0 n1 t8 t9 S47))
    (some (.inr (.exit 0, [], g6.2)))

noncomputable def F43_J2 (_C : CallEnv) (n0 : Nat) (n2 : Nat) (t10 : AV) (S : Store) : Option ((List AV × Store) ⊕ (Ex × List AV × Store)) :=
  (binV .add t10 (.int .i64 1)).bind fun v112 =>
  (nextS n0 n2 [v112] S).bind fun r => some (.inl r)

noncomputable def F43_L2 (C : CallEnv) (n0 : Nat) (t0 t2 t7 : AV) (t10 : AV) (S : Store) : Option ((List AV × Store) ⊕ (Ex × List AV × Store)) :=
  let n2 := S.length
  (binV .add t10 (.int .i64 1)).bind fun v50 =>
  (lenV t0).bind fun v51 =>
  (binV .lss v50 v51).bind fun v52 =>
  (guardK v52 true (some (t2, S)) (some (.und, S))).bind fun g53 =>
  (guardK v52 true ((binV .gtr g53.1 (.int .i64 0)).bind fun v55 =>
  some (v55, g53.2)) (some (.und, g53.2))).bind fun g54 =>
  (pickV v52 g54.1 (.bool false)).bind fun v56 =>
  condK v56
    ((binV .sub t10 (.int .i64 1)).bind fun v57 =>
    (indexAV 3 none t0 v57).bind fun v58 =>
    (fieldAV 2 v58).bind fun v59 =>
    (loadV none v59 g54.2).bind fun v60 =>
    (indexAV 3 none t0 t10).bind fun v61 =>
    (fieldAV 2 v61).bind fun v62 =>
    (loadV none v62 g54.2).bind fun v63 =>
    (binV .add t10 (.int .i64 1)).bind fun v64 =>
    (indexAV 3 none t0 v64).bind fun v65 =>
    (fieldAV 2 v65).bind fun v66 =>
    (loadV none v66 g54.2).bind fun v67 =>
    (binV .add v60 t2).bind fun v68 =>
    (binV .gtr v63 v68).bind fun v69 =>
    (guardK v69 true (some (v63, g54.2)) (some (.und, g54.2))).bind fun g70 =>
    (guardK v69 true (some (v67, g70.2)) (some (.und, g70.2))).bind fun g71 =>
    (guardK v69 true (some (t2, g71.2)) (some (.und, g71.2))).bind fun g72 =>
    (guardK v69 true ((binV .add g71.1 g72.1).bind fun v74 =>
    some (v74, g72.2)) (some (.und, g72.2))).bind fun g73 =>
    (guardK v69 true ((binV .gtr g70.1 g73.1).bind fun v76 =>
    some (v76, g73.2)) (some (.und, g73.2))).bind fun g75 =>
    (pickV v69 g75.1 (.bool false)).bind fun v77 =>
    (guardK v77 false (some (v63, g75.2)) (some (.und, g75.2))).bind fun g78 =>
    (guardK v77 false (some (v60, g78.2)) (some (.und, g78.2))).bind fun g79 =>
    (guardK v77 false (some (t2, g79.2)) (some (.und, g79.2))).bind fun g80 =>
    (guardK v77 false ((binV .sub g79.1 g80.1).bind fun v82 =>
    some (v82, g80.2)) (some (.und, g80.2))).bind fun g81 =>
    (guardK v77 false ((binV .lss g78.1 g81.1).bind fun v84 =>
    some (v84, g81.2)) (some (.und, g81.2))).bind fun g83 =>
    (guardK v77 false (some (g83.1, g83.2)) (some (.und, g83.2))).bind fun g85 =>
    (guardK g85.1 true (some (v63, g85.2)) (some (.und, g85.2))).bind fun g86 =>
    (guardK g85.1 true (some (v67, g86.2)) (some (.und, g86.2))).bind fun g87 =>
    (guardK g85.1 true (some (t2, g87.2)) (some (.und, g87.2))).bind fun g88 =>
    (guardK g85.1 true ((binV .sub g87.1 g88.1).bind fun v90 =>
    some (v90, g88.2)) (some (.und, g88.2))).bind fun g89 =>
    (guardK g85.1 true ((binV .lss g86.1 g89.1).bind fun v92 =>
    some (v92, g89.2)) (some (.und, g89.2))).bind fun g91 =>
    (guardK v77 false ((pickV g85.1 g91.1 (.bool false)).bind fun v94 =>
    some (v94, g91.2)) (some (.und, g91.2))).bind fun g93 =>
    (pickV v77 (.bool true) g93.1).bind fun v95 =>
    (guardK v95 true (some (v60, g93.2)) (some (.und, g93.2))).bind fun g96 =>
    (guardK v95 true (some (v67, g96.2)) (some (.und, g96.2))).bind fun g97 =>
    (guardK v95 true ((binV .sub g96.1 g97.1).bind fun v99 =>
    some (v99, g97.2)) (some (.und, g97.2))).bind fun g98 =>
    (guardK v95 true (some (v67, g98.2)) (some (.und, g98.2))).bind fun g100 =>
    (guardK v95 true (some (v60, g100.2)) (some (.und, g100.2))).bind fun g101 =>
    (guardK v95 true ((binV .sub g100.1 g101.1).bind fun v103 =>
    some (v103, g101.2)) (some (.und, g101.2))).bind fun g102 =>
    (guardK v95 true ((minmaxV true [g98.1, g102.1]).bind fun v105 =>
    some (v105, g102.2)) (some (.und, g102.2))).bind fun g104 =>
    (guardK v95 true (some (t2, g104.2)) (some (.und, g104.2))).bind fun g106 =>
    (guardK v95 true ((binV .leq g104.1 g106.1).bind fun v108 =>
    some (v108, g106.2)) (some (.und, g106.2))).bind fun g107 =>
    (pickV v95 g107.1 (.bool false)).bind fun v109 =>
    condK v109
      ((indexAV 1 none t7 t10).bind fun v110 =>
      (storeV n0 1 v110 (.bool true) g107.2).bind fun S111 =>
      F43_J2 C n0 n2 t10 S111)
      (F43_J2 C n0 n2 t10 g107.2))
    (some (.inr (.exit 2, [], g54.2)))

noncomputable def F43 (C : CallEnv) (args : List AV) (S : Store) : Option (AV × Store) :=
  let n0 := S.length
  let t0 := args.getD 0 .u
  let t1 := args.getD 1 .u
  let t2 := args.getD 2 .u
  (lenV t0).bind fun v1 =>
  (msliceV [(.bool false)] v1 v1 S).bind fun v2 =>
  (iter (fun s => F43_L1 C n0 t0 t1 t2 v2.1 (s.1.getD 0 .u) (s.1.getD 1 .u) s.2) ([(.int .i64 0), (.int .i64 1)], v2.2)).bind fun r48 => exK none
    (fun i49 => bif Nat.beq i49 0 then ((iter (fun s => F43_L2 C n0 t0 t2 v2.1 (s.1.getD 0 .u) s.2) ([(.int .i64 1)], r48.2.2)).bind fun r113 => exK none
      (fun i114 => bif Nat.beq i114 2 then (finish false n0 [v2.1] r113.2.2) else (none))
      (finish false n0 [.u] r113.2.2) r113.1) else (none))
    (finish false n0 [.u] r48.2.2) r48.1

theorem c43 {ov : Over} (h : ov 43 = none) (args : List AV) (S : Store) : (Prg.mk T an ov).call 43 args S = F43 (Prg.mk T an ov).call args S :=
  ((Prg.mk T an ov).call_eq 43 args S).trans ((Prg.step_none h).trans (by kernel_rfl))

/-! ### 47 synoptic/timeline.possible -/
noncomputable def F47 (C : CallEnv) (args : List AV) (S : Store) : Option (AV × Store) :=
  let n0 := S.length
  let t0 := args.getD 0 .u
  (imms (cellsOf t0)).bind fun v1 =>
  (sliceAV 1 12 (.ip v1 0) none none S).bind fun v2 =>
  (argVs [v2, (.clo 61 [])]).bind fun v3 => (C 60 v3 S).bind fun v4 =>
  (unV .not v4.1).bind fun v5 =>
  finish false n0 [v5] v4.2

theorem c47 {ov : Over} (h : ov 47 = none) (args : List AV) (S : Store) : (Prg.mk T an ov).call 47 args S = F47 (Prg.mk T an ov).call args S :=
  ((Prg.mk T an ov).call_eq 47 args S).trans ((Prg.step_none h).trans (by kernel_rfl))

/-! ### 52 synoptic/timeline.lines$1 -/
noncomputable def F52 (C : CallEnv) (args : List AV) (S : Store) : Option (AV × Store) :=
  let n0 := S.length
  let t0 := args.getD 0 .u
  let t1 := args.getD 1 .u
  (imms (cellsOf t0)).bind fun v1 =>
  (imms (cellsOf t1)).bind fun v2 =>
  (fieldAV 1 (.ip v1 0)).bind fun v3 =>
  (loadV none v3 S).bind fun v4 =>
  (fieldAV 1 (.ip v2 0)).bind fun v5 =>
  (loadV none v5 S).bind fun v6 =>
  (argVs [v4, v6]).bind fun v7 => (C 40 v7 S).bind fun v8 =>
  finish false n0 [v8.1] v8.2

theorem c52 {ov : Over} (h : ov 52 = none) (args : List AV) (S : Store) : (Prg.mk T an ov).call 52 args S = F52 (Prg.mk T an ov).call args S :=
  ((Prg.mk T an ov).call_eq 52 args S).trans ((Prg.step_none h).trans (by kernel_rfl))

/-! ### 58 synoptic/synopticref16.slow -/
noncomputable def F58 (_C : CallEnv) (args : List AV) (S : Store) : Option (AV × Store) :=
  let n0 := S.length
  let t0 := args.getD 0 .u
  let t1 := args.getD 1 .u
  let t2 := args.getD 2 .u
  (imms (cellsOf t0)).bind fun v1 =>
  (imms (cellsOf t1)).bind fun v2 =>
  (fieldAV 1 (.ip v1 0)).bind fun v3 =>
  (loadV none v3 S).bind fun v4 =>
  (fieldAV 1 (.ip v2 0)).bind fun v5 =>
  (loadV none v5 S).bind fun v6 =>
  (binV .sub v4 v6).bind fun v7 =>
  (fieldAV 1 (.ip v2 0)).bind fun v8 =>
  (loadV none v8 S).bind fun v9 =>
  (fieldAV 1 (.ip v1 0)).bind fun v10 =>
  (loadV none v10 S).bind fun v11 =>
  (binV .sub v9 v11).bind fun v12 =>
  (minmaxV true [v7, v12]).bind fun v13 =>
  (binV .add v13 (.int .i64 59)).bind fun v14 =>
  (binV .quo v14 (.int .i64 60)).bind fun v15 =>
  (fieldAV 2 (.ip v1 0)).bind fun v16 =>
  (loadV none v16 S).bind fun v17 =>
  (fieldAV 2 (.ip v2 0)).bind fun v18 =>
  (loadV none v18 S).bind fun v19 =>
  (binV .sub v17 v19).bind fun v20 =>
  (fieldAV 2 (.ip v2 0)).bind fun v21 =>
  (loadV none v21 S).bind fun v22 =>
  (fieldAV 2 (.ip v1 0)).bind fun v23 =>
  (loadV none v23 S).bind fun v24 =>
  (binV .sub v22 v24).bind fun v25 =>
  (minmaxV true [v20, v25]).bind fun v26 =>
  (binV .mul t2 v15).bind fun v27 =>
  (binV .leq v26 v27).bind fun v28 =>
  finish false n0 [v28] S

theorem c58 {ov : Over} (h : ov 58 = none) (args : List AV) (S : Store) : (Prg.mk T an ov).call 58 args S = F58 (Prg.mk T an ov).call args S :=
  ((Prg.mk T an ov).call_eq 58 args S).trans ((Prg.step_none h).trans (by kernel_rfl))

/-! ### 62 synoptic/element.Validate$1 -/
noncomputable def F62 (C : CallEnv) (args : List AV) (S : Store) : Option (AV × Store) :=
  let n0 := S.length
  let t0 := args.getD 0 .u
  let t1 := args.getD 1 .u
  (imms (cellsOf t0)).bind fun v1 =>
  (loadV none t1 S).bind fun v2 =>
  (cells1 [(.ip v1 0)]).bind fun v3 =>
  (argVs [v2, (.clo 64 v3)]).bind fun v4 => (C 63 v4 S).bind fun v5 =>
  finish false n0 [v5.1] v5.2

theorem c62 {ov : Over} (h : ov 62 = none) (args : List AV) (S : Store) : (Prg.mk T an ov).call 62 args S = F62 (Prg.mk T an ov).call args S :=
  ((Prg.mk T an ov).call_eq 62 args S).trans ((Prg.step_none h).trans (by kernel_rfl))

/-! ### 66 slices.IndexFunc[[]synoptic/api.Report,synoptic/api.Report] -/
noncomputable def F66_L1 (C : CallEnv) (n0 : Nat) (t0 t1 t7 : AV) (t8 : AV) (S : Store) : Option ((List AV × Store) ⊕ (Ex × List AV × Store)) :=
  let n1 := S.length
  (binV .lss t8 t7).bind fun v2 =>
  condK v2
    ((indexAV 8 none t0 t8).bind fun v3 =>
    (loadV (some 8) v3 S).bind fun v4 =>
    match t1 with
    | .clo v7 v8 => (argVs [v4]).bind fun v5 => (C v7 (v5 ++ v8) S).bind fun v6 =>
      condK v6.1
        (some (.inr (.ret, [t8], v6.2)))
        ((binV .add t8 (.int .i64 1)).bind fun v9 =>
        (nextS n0 n1 [v9] v6.2).bind fun r => some (.inl r))
    | _ => none)
    (some (.inr (.exit 0, [.u], S)))

noncomputable def F66 (C : CallEnv) (args : List AV) (S : Store) : Option (AV × Store) :=
  let n0 := S.length
  let t0 := args.getD 0 .u
  let t1 := args.getD 1 .u
  (lenV t0).bind fun v1 =>
  (iter (fun s => F66_L1 C n0 t0 t1 v1 (s.1.getD 0 .u) s.2) ([(.int .i64 0)], S)).bind fun r10 => exK none
    (fun i11 => bif Nat.beq i11 0 then (finish false n0 [(.int .i64 (-1))] r10.2.2) else (none))
    (finish false n0 [(r10.2.1.getD 0 .u)] r10.2.2) r10.1

theorem c66 {ov : Over} (h : ov 66 = none) (args : List AV) (S : Store) : (Prg.mk T an ov).call 66 args S = F66 (Prg.mk T an ov).call args S :=
  ((Prg.mk T an ov).call_eq 66 args S).trans ((Prg.step_none h).trans (by kernel_rfl))

/-! ### 81 slices.IndexFunc[[]int,int] -/
noncomputable def F81_L1 (C : CallEnv) (n0 : Nat) (t0 t1 t7 : AV) (t8 : AV) (S : Store) : Option ((List AV × Store) ⊕ (Ex × List AV × Store)) :=
  let n1 := S.length
  (binV .lss t8 t7).bind fun v2 =>
  condK v2
    ((indexAV 1 none t0 t8).bind fun v3 =>
    (loadV none v3 S).bind fun v4 =>
    match t1 with
    | .clo v7 v8 => (argVs [v4]).bind fun v5 => (C v7 (v5 ++ v8) S).bind fun v6 =>
      condK v6.1
        (some (.inr (.ret, [t8], v6.2)))
        ((binV .add t8 (.int .i64 1)).bind fun v9 =>
        (nextS n0 n1 [v9] v6.2).bind fun r => some (.inl r))
    | _ => none)
    (some (.inr (.exit 0, [.u], S)))

noncomputable def F81 (C : CallEnv) (args : List AV) (S : Store) : Option (AV × Store) :=
  let n0 := S.length
  let t0 := args.getD 0 .u
  let t1 := args.getD 1 .u
  (lenV t0).bind fun v1 =>
  (iter (fun s => F81_L1 C n0 t0 t1 v1 (s.1.getD 0 .u) s.2) ([(.int .i64 0)], S)).bind fun r10 => exK none
    (fun i11 => bif Nat.beq i11 0 then (finish false n0 [(.int .i64 (-1))] r10.2.2) else (none))
    (finish false n0 [(r10.2.1.getD 0 .u)] r10.2.2) r10.1

theorem c81 {ov : Over} (h : ov 81 = none) (args : List AV) (S : Store) : (Prg.mk T an ov).call 81 args S = F81 (Prg.mk T an ov).call args S :=
  ((Prg.mk T an ov).call_eq 81 args S).trans ((Prg.step_none h).trans (by kernel_rfl))

end Go.Proofs.YtlilahgndpdkfaaDoor
