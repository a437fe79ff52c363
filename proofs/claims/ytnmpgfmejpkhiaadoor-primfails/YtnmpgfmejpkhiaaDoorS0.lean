/- What functions of the program come to: of each, the condition on the heap that its code asks, as the engine of the texts before reckons it out of the code. Part 0. -/
import Derived.Test.YtnmpgfmejpkhiaaDoorN1
set_option maxRecDepth 100000
namespace Go.Hv.W
open Go Go.Hv Go.Proofs

/-- webster/websterlaw16.PrimFails -/
theorem S_websterlaw16_PrimFails {sa0 : Sl} {za1 : Int} {za2 : Int} {sa3 : Sl} {h : Heap} {R : Value → Heap → Prop} (H :
  (HC P F_websterlaw16_few #[(Value.slice sa0.a sa0.n sa0.c)] h
    (fun v1 h1 => (∃ b1 : Bool, ((v1 = (Value.bool b1)) ∧
    (cond (!b1)
      (HC P F_websterlaw16_known #[] h1
        (fun v2 h2 => (∃ b2 : Bool, ((v2 = (Value.bool b2)) ∧
        (R (Value.bool b2) h2)))))
      (cond (decide ((4 : Int) < (sa3.n : Int)))
        (HC P F_websterlaw16_known #[] h1
          (fun v2 h2 => (∃ b2 : Bool, ((v2 = (Value.bool b2)) ∧
          (R (Value.bool b2) h2)))))
        (HC P F_flat_New #[] h1
          (fun v2 h2 => (∃ a1 : (Option Addr), ((v2 = (Value.pointer a1)) ∧
          (cond (Option.isNone a1)
            (R (Value.bool false) h2)
            (HC P F_flat_Load #[(Value.iface T__flat_Memory (Value.pointer a1)), (Value.slice sa0.a sa0.n sa0.c)] h2
              (fun v3 h3 => (∃ z1 : Int, ((v3 = (Value.int .i64 z1)) ∧
              (cond (z1 != (0 : Int))
                (R (Value.bool false) h3)
                (HC P F_prim_Do #[(Value.iface T__flat_Memory (Value.pointer a1)), (Value.int .i64 za1), (Value.int .i64 za2), (Value.slice sa3.a sa3.n sa3.c)] h3
                  (fun v4 h4 => (∃ z2 : Int, (∃ b2 : Bool, (∃ z3 : Int, ((v4 = (Value.tuple #[(Value.int .i64 z2), (Value.bool b2), (Value.int .i64 z3)])) ∧
                  (HC P F_prim_Known #[(Value.int .i64 za1)] h4
                    (fun v5 h5 => (∃ z4 : Int, (∃ b3 : Bool, ((v5 = (Value.tuple #[(Value.int .i64 z4), (Value.bool b3)])) ∧
                    (∀ J1 : (Bool → (Heap → Prop)), ((∀ b4 : Bool, (∀ h1_1 : Heap, ((cond (!b2)
                          (cond (z2 == (0 : Int))
                            (HC P F_websterlaw16_objs #[(Value.iface T__flat_Memory (Value.pointer a1))] h1_1
                              (fun v6 h6 => (∃ s1 : Sl, ((v6 = (Value.slice s1.a s1.n s1.c)) ∧
                              (HC P F_websterref16_Same #[(Value.agg #[(Value.slice sa0.a sa0.n sa0.c)]), (Value.slice s1.a s1.n s1.c)] h6
                                (fun v7 h7 => (∃ b5 : Bool, ((v7 = (Value.bool b5)) ∧
                                (cond b5
                                  (HC P F_websterlaw16_known #[] h7
                                    (fun v8 h8 => (∃ b6 : Bool, ((v8 = (Value.bool b6)) ∧
                                    (R (Value.bool b6) h8)))))
                                  (R (Value.bool false) h7))))))))))
                            (R (Value.bool false) h1_1))
                          (HC P F_flat_All #[(Value.iface T__flat_Memory (Value.pointer a1))] h1_1
                            (fun v6 h6 => (∃ s1 : Sl, ((v6 = (Value.slice s1.a s1.n s1.c)) ∧
                            (cond (decide ((sa0.n : Int) ≤ (s1.n : Int)))
                              (HC P F_websterlaw16_known #[] h6
                                (fun v7 h7 => (∃ b5 : Bool, ((v7 = (Value.bool b5)) ∧
                                (R (Value.bool b5) h7)))))
                              (R (Value.bool false) h6))))))) →
                      (J1 b4 h1_1)))) →
                    (cond b2
                      (cond (!b3)
                        (R (Value.bool false) h5)
                        (cond (z4 != (sa3.n : Int))
                          (R (Value.bool false) h5)
                          (cond (z3 != (0 : Int))
                            (R (Value.bool false) h5)
                            (J1 false h5))))
                      (cond (z3 != (0 : Int))
                        (R (Value.bool false) h5)
                        (J1 false h5))))))))))))))))))))))))))))))))) :
  HC P F_websterlaw16_PrimFails #[.slice sa0.a sa0.n sa0.c, .int .i64 za1, .int .i64 za2, .slice sa3.a sa3.n sa3.c] h R :=
  HC.of_eq (args := [.slice sa0.a sa0.n sa0.c, .int .i64 za1, .int .i64 za2, .slice sa3.a sa3.n sa3.c]) (fn := Tryd.f6) (by kernel_rfl) (by kernel_rfl) (by kernel_rfl) (by kernel_rfl) (qs := [29, 32, 35, 105, 119, 30100016]) (by kernel_rfl) H

/-- (*webster/flat.Memory).Fetch -/
theorem S_flat_Memory_Fetch {aa0 : Option Addr} {za1 : Int} {za2 : Int} {h : Heap} {R : Value → Heap → Prop} (H :
  (HC P F_flat_Memory_place #[(Value.pointer aa0), (Value.int .i64 za1), (Value.int .i64 (1 : Int)), (Value.int .i64 za2)] h
    (fun v1 h1 => (∃ a1 : (Option Addr), (∃ z1 : Int, ((v1 = (Value.tuple #[(Value.pointer a1), (Value.int .i64 z1)])) ∧
    (cond (z1 != (0 : Int))
      (R (Value.tuple #[(Value.int .i64 (0 : Int)), (Value.int .i64 z1)]) h1)
      (optE a1 False (fun p1 => (∃ s1 : Sl, (((cellH h1 (Addr.add p1 2)) = (some (Value.slice s1.a s1.n s1.c))) ∧
      (optE s1.a False (fun p2 => (((0 : Int) ≤ za2) ∧
      ((za2 < (s1.n : Int)) ∧
      (∃ z2 : Int, (((cellH h1 (Addr.add p2 ((Int.toNat za2) * 1))) = (some (Value.int .i64 z2))) ∧
      (R (Value.tuple #[(Value.int .i64 z2), (Value.int .i64 (0 : Int))]) h1)))))))))))))))))) :
  HC P F_flat_Memory_Fetch #[.pointer aa0, .int .i64 za1, .int .i64 za2] h R :=
  HC.of_eq (args := [.pointer aa0, .int .i64 za1, .int .i64 za2]) (fn := Tryd.f21) (by kernel_rfl) (by kernel_rfl) (by kernel_rfl) (by kernel_rfl) (qs := [29, 32, 35, 105, 119]) (by kernel_rfl) H

/-- webster/websterlaw16.objs -/
theorem S_websterlaw16_objs {va0 : Value} {h : Heap} {R : Value → Heap → Prop} (H :
  (HC P F_flat_All #[va0] h
    (fun v1 h1 => (∃ s1 : Sl, ((v1 = (Value.slice s1.a s1.n s1.c)) ∧
    (∃ I1 : (Int → (Sl → (Heap → Prop))), (∃ μ1 : (Int → (Sl → (Heap → Nat))), ((I1 (0 : Int) (Sl.mk none 0 0) h1) ∧
    (∀ z1 : Int, (∀ s2 : Sl, (∀ h1_1 : Heap, ((I1 z1 s2 h1_1) →
    (cond (decide (z1 < (s1.n : Int)))
      (optE s1.a False (fun p1 => (((0 : Int) ≤ z1) ∧
      ((z1 < (s1.n : Int)) ∧
      (∃ z2 : Int, (((cellH h1_1 (Addr.add p1 ((Int.toNat z1) * 1))) = (some (Value.int .i64 z2))) ∧
      ((HN P (Value.func (Fn.method "Obj") #[va0] #[])) ∧
      ((HI P va0 "Obj" #[(Value.int .i64 z2)] h1_1
         (fun v2 h2 => (∃ z3 : Int, (∃ z4 : Int, (∃ s3 : Sl, (∃ s4 : Sl, (∃ z5 : Int, ((v2 = (Value.tuple #[(Value.agg #[(Value.int .i64 z3), (Value.int .i64 z4), (Value.slice s3.a s3.n s3.c), (Value.slice s4.a s4.n s4.c)]), (Value.int .i64 z5)])) ∧
         (∀ h2_1 : Heap, ((h2_1 = (Array.push h2 (Obj.cells #[(Value.int .i64 (0 : Int)), (Value.int .i64 (0 : Int)), (Value.slice none 0 0), (Value.slice none 0 0)] T_api_Obj (0, 0)))) →
         ((StOK h2_1 (Addr.mk (Array.size h2) 0 none) 4) ∧
         (∀ h3 : Heap, ((h3 = (putsH h2_1 (Addr.mk (Array.size h2) 0 none) [(Value.int .i64 z3), (Value.int .i64 z4), (Value.slice s3.a s3.n s3.c), (Value.slice s4.a s4.n s4.c)] 0)) →
         (∃ z6 : Int, (((cellH h3 (Addr.add (Addr.mk (Array.size h2) 0 none) 0)) = (some (Value.int .i64 z6))) ∧
         (∃ z7 : Int, (((cellH h3 (Addr.add (Addr.mk (Array.size h2) 0 none) 1)) = (some (Value.int .i64 z7))) ∧
         (∃ s5 : Sl, (((cellH h3 (Addr.add (Addr.mk (Array.size h2) 0 none) 2)) = (some (Value.slice s5.a s5.n s5.c))) ∧
         (∃ s6 : Sl, (((cellH h3 (Addr.add (Addr.mk (Array.size h2) 0 none) 3)) = (some (Value.slice s6.a s6.n s6.c))) ∧
         (∀ h4 : Heap, ((h4 = (Array.push h3 (Obj.cells #[(Value.int .i64 z6), (Value.int .i64 z7), (Value.slice s5.a s5.n s5.c), (Value.slice s6.a s6.n s6.c)] T_api_Obj (0, 0)))) →
         ((AppOK h4 4 s2.a s2.n s2.c (some (Addr.mk (Array.size h3) 0 none)) 1 64) ∧
         ((4 = 4) ∧
         (∀ s7 : Sl, (∀ h5 : Heap, ((Appended h4 4 [(Value.int .i64 (0 : Int)), (Value.int .i64 (0 : Int)), (Value.slice none 0 0), (Value.slice none 0 0)] T_api_Obj s2.a s2.n s2.c (some (Addr.mk (Array.size h3) 0 none)) 1 s7 h5) →
         ((InI (z1 + (1 : Int))) ∧
         ((I1 (z1 + (1 : Int)) (Sl.mk s7.a s7.n s7.c) h5) ∧
         ((μ1 (z1 + (1 : Int)) (Sl.mk s7.a s7.n s7.c) h5) < (μ1 z1 s2 h1_1)))))))))))))))))))))))))))))))) ∧
      (∀ h2 : Heap, ((h2 = (Array.push h1_1 (Obj.cells #[(Value.int .i64 (0 : Int)), (Value.int .i64 (0 : Int)), (Value.slice none 0 0), (Value.slice none 0 0)] T_api_Obj (0, 0)))) →
      ((∃ z3 : Int, (((cellH h2 (Addr.add p1 ((Int.toNat z1) * 1))) = (some (Value.int .i64 z3))) ∧
       ((Value.int .i64 z3) = (Value.int .i64 z2)))) ∧
      (HI P va0 "Obj" #[(Value.int .i64 z2)] h2
        (fun v2 h2_1 => (∃ z3 : Int, (∃ z4 : Int, (∃ s3 : Sl, (∃ s4 : Sl, (∃ z5 : Int, ((v2 = (Value.tuple #[(Value.agg #[(Value.int .i64 z3), (Value.int .i64 z4), (Value.slice s3.a s3.n s3.c), (Value.slice s4.a s4.n s4.c)]), (Value.int .i64 z5)])) ∧
        ((StOK h2_1 (Addr.mk (Array.size h1_1) 0 none) 4) ∧
        (∀ h3 : Heap, ((h3 = (putsH h2_1 (Addr.mk (Array.size h1_1) 0 none) [(Value.int .i64 z3), (Value.int .i64 z4), (Value.slice s3.a s3.n s3.c), (Value.slice s4.a s4.n s4.c)] 0)) →
        (∃ z6 : Int, (((cellH h3 (Addr.add (Addr.mk (Array.size h1_1) 0 none) 0)) = (some (Value.int .i64 z6))) ∧
        (∃ z7 : Int, (((cellH h3 (Addr.add (Addr.mk (Array.size h1_1) 0 none) 1)) = (some (Value.int .i64 z7))) ∧
        (∃ s5 : Sl, (((cellH h3 (Addr.add (Addr.mk (Array.size h1_1) 0 none) 2)) = (some (Value.slice s5.a s5.n s5.c))) ∧
        (∃ s6 : Sl, (((cellH h3 (Addr.add (Addr.mk (Array.size h1_1) 0 none) 3)) = (some (Value.slice s6.a s6.n s6.c))) ∧
        (∀ h4 : Heap, ((h4 = (Array.push h3 (Obj.cells #[(Value.int .i64 z6), (Value.int .i64 z7), (Value.slice s5.a s5.n s5.c), (Value.slice s6.a s6.n s6.c)] T_api_Obj (0, 0)))) →
        ((AppOK h4 4 s2.a s2.n s2.c (some (Addr.mk (Array.size h3) 0 none)) 1 64) ∧
        ((4 = 4) ∧
        (∀ s7 : Sl, (∀ h5 : Heap, ((Appended h4 4 [(Value.int .i64 (0 : Int)), (Value.int .i64 (0 : Int)), (Value.slice none 0 0), (Value.slice none 0 0)] T_api_Obj s2.a s2.n s2.c (some (Addr.mk (Array.size h3) 0 none)) 1 s7 h5) →
        ((InI (z1 + (1 : Int))) ∧
        ((I1 (z1 + (1 : Int)) (Sl.mk s7.a s7.n s7.c) h5) ∧
        ((μ1 (z1 + (1 : Int)) (Sl.mk s7.a s7.n s7.c) h5) < (μ1 z1 s2 h1_1)))))))))))))))))))))))))))))))))))))))))
      (R (Value.slice s2.a s2.n s2.c) h1_1)))))))))))))) :
  HC P F_websterlaw16_objs #[va0] h R :=
  HC.of_eq (args := [va0]) (fn := Tryd.f25) (by kernel_rfl) (by kernel_rfl) (by kernel_rfl) (by kernel_rfl) (qs := [29, 32, 35, 105, 119]) (by kernel_rfl) H

/-- webster/word.Oop -/
theorem S_word_Oop {za0 : Int} {h : Heap} {R : Value → Heap → Prop} (H :
  (cond (decide (za0 < (1 : Int)))
    (R (Value.int .i64 (0 : Int)) h)
    (cond (decide ((1073741824 : Int) ≤ za0))
      (R (Value.int .i64 (0 : Int)) h)
      ((InI ((2 : Int) * za0)) ∧
      (R (Value.int .i64 ((2 : Int) * za0)) h))))) :
  HC P F_word_Oop #[.int .i64 za0] h R :=
  HC.of_eq (args := [.int .i64 za0]) (fn := Tryd.f32) (by kernel_rfl) (by kernel_rfl) (by kernel_rfl) (by kernel_rfl) (qs := [29, 32, 35, 105, 119]) (by kernel_rfl) H

/-- webster/prim.digits -/
theorem S_prim_digits {va0 : Value} {za1 : Int} {h : Heap} {R : Value → Heap → Prop} (H :
  (HC P F_word_Number #[(Value.int .i64 za1)] h
    (fun v1 h1 => (∃ z1 : Int, (∃ b1 : Bool, ((v1 = (Value.tuple #[(Value.int .i64 z1), (Value.bool b1)])) ∧
    (cond b1
      (HC P F_large_Of #[(Value.int .i64 z1)] h1
        (fun v2 h2 => (∃ s1 : Sl, (∃ z2 : Int, ((v2 = (Value.tuple #[(Value.slice s1.a s1.n s1.c), (Value.int .i64 z2)])) ∧
        (R (Value.tuple #[(Value.slice s1.a s1.n s1.c), (Value.bool (z2 == (0 : Int)))]) h2))))))
      (HI P va0 "Obj" #[(Value.int .i64 za1)] h1
        (fun v2 h2 => (∃ z2 : Int, (∃ z3 : Int, (∃ s1 : Sl, (∃ s2 : Sl, (∃ z4 : Int, ((v2 = (Value.tuple #[(Value.agg #[(Value.int .i64 z2), (Value.int .i64 z3), (Value.slice s1.a s1.n s1.c), (Value.slice s2.a s2.n s2.c)]), (Value.int .i64 z4)])) ∧
        (∀ h1_1 : Heap, ((h1_1 = (Array.push h2 (Obj.cells #[(Value.int .i64 (0 : Int)), (Value.int .i64 (0 : Int)), (Value.slice none 0 0), (Value.slice none 0 0)] T_api_Obj (0, 0)))) →
        ((StOK h1_1 (Addr.mk (Array.size h2) 0 none) 4) ∧
        (∀ h2_1 : Heap, ((h2_1 = (putsH h1_1 (Addr.mk (Array.size h2) 0 none) [(Value.int .i64 z2), (Value.int .i64 z3), (Value.slice s1.a s1.n s1.c), (Value.slice s2.a s2.n s2.c)] 0)) →
        (∃ s3 : Sl, (((cellH h2_1 (Addr.add (Addr.mk (Array.size h2) 0 none) 3)) = (some (Value.slice s3.a s3.n s3.c))) ∧
        (cond (z4 == (0 : Int))
          (∃ z5 : Int, (((cellH h2_1 (Addr.add (Addr.mk (Array.size h2) 0 none) 1)) = (some (Value.int .i64 z5))) ∧
          (cond (z5 == (2 : Int))
            (∃ s4 : Sl, (((cellH h2_1 (Addr.add (Addr.mk (Array.size h2) 0 none) 3)) = (some (Value.slice s4.a s4.n s4.c))) ∧
            (HC P F_large_Right #[(Value.slice s4.a s4.n s4.c)] h2_1
              (fun v3 h3 => (∃ b2 : Bool, ((v3 = (Value.bool b2)) ∧
              ((∃ s5 : Sl, (((cellH h3 (Addr.add (Addr.mk (Array.size h2) 0 none) 3)) = (some (Value.slice s5.a s5.n s5.c))) ∧
               ((Value.slice s5.a s5.n s5.c) = (Value.slice s3.a s3.n s3.c)))) ∧
              (R (Value.tuple #[(Value.slice s3.a s3.n s3.c), (Value.bool b2)]) h3))))))))
            (R (Value.tuple #[(Value.slice s3.a s3.n s3.c), (Value.bool false)]) h2_1))))
          (R (Value.tuple #[(Value.slice s3.a s3.n s3.c), (Value.bool false)]) h2_1)))))))))))))))))))))))) :
  HC P F_prim_digits #[va0, .int .i64 za1] h R :=
  HC.of_eq (args := [va0, .int .i64 za1]) (fn := Tryd.f71) (by kernel_rfl) (by kernel_rfl) (by kernel_rfl) (by kernel_rfl) (qs := [29, 32, 35, 105, 119]) (by kernel_rfl) H

/-- webster/prim.bytes -/
theorem S_prim_bytes {va0 : Value} {za1 : Int} {sa2 : Sl} {h : Heap} {R : Value → Heap → Prop} (H :
  (HI P va0 "New" #[(Value.int .i64 za1), (Value.int .i64 (2 : Int)), (Value.int .i64 (sa2.n : Int))] h
    (fun v1 h1 => (∃ z1 : Int, (∃ z2 : Int, ((v1 = (Value.tuple #[(Value.int .i64 z1), (Value.int .i64 z2)])) ∧
    (∀ J1 : (Int → (Heap → Prop)), ((∀ z3 : Int, (∀ h1_1 : Heap, ((R (Value.tuple #[(Value.int .i64 z1), (Value.int .i64 z3)]) h1_1) →
      (J1 z3 h1_1)))) →
    (∃ I1 : (Int → (Int → (Heap → Prop))), (∃ μ1 : (Int → (Int → (Heap → Nat))), ((I1 (0 : Int) z2 h1) ∧
    (∀ z3 : Int, (∀ z4 : Int, (∀ h1_1 : Heap, ((I1 z3 z4 h1_1) →
    (cond (decide (z3 < (sa2.n : Int)))
      (cond (z4 == (0 : Int))
        (optE sa2.a False (fun p1 => (((0 : Int) ≤ z3) ∧
        ((z3 < (sa2.n : Int)) ∧
        (∃ z5 : Int, (((cellH h1_1 (Addr.add p1 ((Int.toNat z3) * 1))) = (some (Value.int .u8 z5))) ∧
        ((InI z5) ∧
        ((HN P (Value.func (Fn.method "SetByte") #[va0] #[])) ∧
        (HI P va0 "SetByte" #[(Value.int .i64 z1), (Value.int .i64 z3), (Value.int .i64 z5)] h1_1
          (fun v2 h2 => (∃ z6 : Int, ((v2 = (Value.int .i64 z6)) ∧
          ((InI (z3 + (1 : Int))) ∧
          ((I1 (z3 + (1 : Int)) z6 h2) ∧
          ((μ1 (z3 + (1 : Int)) z6 h2) < (μ1 z3 z4 h1_1))))))))))))))))
        (J1 z4 h1_1))
      (J1 z4 h1_1))))))))))))))))) :
  HC P F_prim_bytes #[va0, .int .i64 za1, .slice sa2.a sa2.n sa2.c] h R :=
  HC.of_eq (args := [va0, .int .i64 za1, .slice sa2.a sa2.n sa2.c]) (fn := Tryd.f77) (by kernel_rfl) (by kernel_rfl) (by kernel_rfl) (by kernel_rfl) (qs := [29, 32, 35, 105, 119, 30100004]) (by kernel_rfl) H

/-- webster/kit.ClassOf -/
theorem S_kit_ClassOf {va0 : Value} {za1 : Int} {h : Heap} {R : Value → Heap → Prop} (H :
  (HC P F_word_Number #[(Value.int .i64 za1)] h
    (fun v1 h1 => (∃ z1 : Int, (∃ b1 : Bool, ((v1 = (Value.tuple #[(Value.int .i64 z1), (Value.bool b1)])) ∧
    (cond b1
      (HC P F_kit_Special #[va0, (Value.int .i64 (0 : Int))] h1
        (fun v2 h2 => (∃ z2 : Int, (∃ z3 : Int, ((v2 = (Value.tuple #[(Value.int .i64 z2), (Value.int .i64 z3)])) ∧
        (R (Value.tuple #[(Value.int .i64 z2), (Value.int .i64 z3)]) h2))))))
      (HC P F_flat_Class #[va0, (Value.int .i64 za1)] h1
        (fun v2 h2 => (∃ z2 : Int, (∃ z3 : Int, ((v2 = (Value.tuple #[(Value.int .i64 z2), (Value.int .i64 z3)])) ∧
        (R (Value.tuple #[(Value.int .i64 z2), (Value.int .i64 z3)]) h2))))))))))))) :
  HC P F_kit_ClassOf #[va0, .int .i64 za1] h R :=
  HC.of_eq (args := [va0, .int .i64 za1]) (fn := Tryd.f84) (by kernel_rfl) (by kernel_rfl) (by kernel_rfl) (by kernel_rfl) (qs := [29, 32, 35, 105, 119]) (by kernel_rfl) H

/-- slices.Clone[[]byte,byte] -/
theorem S_slices_Clone_byte_byte {sa0 : Sl} {h : Heap} {R : Value → Heap → Prop} (H :
  (cond (Option.isNone sa0.a)
    (R (Value.slice none 0 0) h)
    (∀ h1 : Heap, ((h1 = (Array.push h (Obj.cells #[] T_uint8 (0, 0)))) →
    ((AppOK h1 1 (some (Addr.mk (Array.size h) 0 none)) 0 0 sa0.a sa0.n 1) ∧
    ((1 = 1) ∧
    (∀ s1 : Sl, (∀ h2 : Heap, ((Appended h1 1 [(Value.int .u8 (0 : Int))] T_uint8 (some (Addr.mk (Array.size h) 0 none)) 0 0 sa0.a sa0.n s1 h2) →
    (R (Value.slice s1.a s1.n s1.c) h2)))))))))) :
  HC P F_slices_Clone_byte_byte #[.slice sa0.a sa0.n sa0.c] h R :=
  HC.of_eq (args := [.slice sa0.a sa0.n sa0.c]) (fn := Tryd.f100) (by kernel_rfl) (by kernel_rfl) (by kernel_rfl) (by kernel_rfl) (qs := [29, 32, 35, 105, 119]) (by kernel_rfl) H

/-- webster/large.Cmp -/
theorem S_large_Cmp {sa0 : Sl} {sa1 : Sl} {h : Heap} {R : Value → Heap → Prop} (H :
  (∀ h1 : Heap, ((h1 = (Array.push h (Obj.cells #[(Value.slice sa1.a sa1.n sa1.c)] 39 (0, 0)))) →
  (∀ h2 : Heap, ((h2 = (Array.push h1 (Obj.cells #[(Value.int .i64 (0 : Int))] T_int (0, 0)))) →
  (∃ s1 : Sl, (((cellH h2 (Addr.mk (Array.size h) 0 none)) = (some (Value.slice s1.a s1.n s1.c))) ∧
  (HC P F_large_cut #[(Value.slice sa0.a sa0.n sa0.c)] h2
    (fun v1 h1_1 => (∃ s2 : Sl, ((v1 = (Value.slice s2.a s2.n s2.c)) ∧
    ((∃ s3 : Sl, (((cellH h1_1 (Addr.mk (Array.size h) 0 none)) = (some (Value.slice s3.a s3.n s3.c))) ∧
     ((Value.slice s3.a s3.n s3.c) = (Value.slice s1.a s1.n s1.c)))) ∧
    (HC P F_large_cut #[(Value.slice s1.a s1.n s1.c)] h1_1
      (fun v2 h2_1 => (∃ s3 : Sl, ((v2 = (Value.slice s3.a s3.n s3.c)) ∧
      ((StOK h2_1 (Addr.mk (Array.size h) 0 none) 1) ∧
      (∀ h3 : Heap, ((h3 = (putH h2_1 (Addr.mk (Array.size h) 0 none) (Value.slice s3.a s3.n s3.c))) →
      (∃ s4 : Sl, (((cellH h3 (Addr.mk (Array.size h) 0 none)) = (some (Value.slice s4.a s4.n s4.c))) ∧
      (cond ((s2.n : Int) != (s4.n : Int))
        (∃ s5 : Sl, (((cellH h3 (Addr.mk (Array.size h) 0 none)) = (some (Value.slice s5.a s5.n s5.c))) ∧
        (cond (decide ((s2.n : Int) < (s5.n : Int)))
          ((StOK h3 (Addr.mk (Array.size h1) 0 none) 1) ∧
          (∀ h4 : Heap, ((h4 = (putH h3 (Addr.mk (Array.size h1) 0 none) (Value.int .i64 (-1 : Int)))) →
          (∃ z1 : Int, (((cellH h4 (Addr.mk (Array.size h1) 0 none)) = (some (Value.int .i64 z1))) ∧
          (R (Value.int .i64 z1) h4))))))
          ((StOK h3 (Addr.mk (Array.size h1) 0 none) 1) ∧
          (∀ h4 : Heap, ((h4 = (putH h3 (Addr.mk (Array.size h1) 0 none) (Value.int .i64 (1 : Int)))) →
          (∃ z1 : Int, (((cellH h4 (Addr.mk (Array.size h1) 0 none)) = (some (Value.int .i64 z1))) ∧
          (R (Value.int .i64 z1) h4)))))))))
        (HC P F_slices_Backward_byte_byte #[(Value.slice s2.a s2.n s2.c)] h3
          (fun v3 h3_1 => (∃ v4 : Value, ((v3 = v4) ∧
          (∀ mk1 : (LoopState → (Ex → Obj)), (∀ h4 : Heap, ((h4 = (Array.push h3_1 (Obj.deferred (some [])))) →
          (∀ h5 : Heap, ((h5 = (Array.push h4 (mk1 (Go.LoopState.ready) (Go.Hv.Ex.normal)))) →
          ((∀ v5 : Value, (∀ v6 : Value, (∀ h6 : Heap, (∀ R1 : (Value → (Heap → Prop)), ((((h6)[(Array.size h4)]? = (some (mk1 (Go.LoopState.ready) (Go.Hv.Ex.normal)))) ∧
              (asI v5 (fun j1 z1 => (if (j1 = (Go.IntKind.i64)) then
                (asI v6 (fun j2 z2 => (if (j2 = (Go.IntKind.u8)) then
                  (((h6)[(Array.size h4)]? = (some (mk1 (Go.LoopState.ready) (Go.Hv.Ex.normal)))) ∧
                  (∀ h7 : Heap, ((h7 = (Array.setIfInBounds h6 (Array.size h4) (mk1 (Go.LoopState.busy) (Go.Hv.Ex.normal)))) →
                  (∃ s5 : Sl, (((cellH h7 (Addr.mk (Array.size h) 0 none)) = (some (Value.slice s5.a s5.n s5.c))) ∧
                  (optE s5.a False (fun p1 => (((0 : Int) ≤ z1) ∧
                  ((z1 < (s5.n : Int)) ∧
                  (∃ z3 : Int, (((cellH h7 (Addr.add p1 ((Int.toNat z1) * 1))) = (some (Value.int .u8 z3))) ∧
                  (cond (decide (z2 < z3))
                    ((StOK h7 (Addr.mk (Array.size h1) 0 none) 1) ∧
                    (∀ h8 : Heap, ((h8 = (putH h7 (Addr.mk (Array.size h1) 0 none) (Value.int .i64 (-1 : Int)))) →
                    (((h8)[(Array.size h4)]? = (some (mk1 (Go.LoopState.busy) (Go.Hv.Ex.normal)))) ∧
                    (∀ h9 : Heap, ((h9 = (Array.setIfInBounds h8 (Array.size h4) (mk1 (Go.LoopState.done) (Go.Hv.Ex.ret)))) →
                    (R1 (Value.bool false) h9)))))))
                    (∃ s6 : Sl, (((cellH h7 (Addr.mk (Array.size h) 0 none)) = (some (Value.slice s6.a s6.n s6.c))) ∧
                    (optE s6.a False (fun p2 => (((0 : Int) ≤ z1) ∧
                    ((z1 < (s6.n : Int)) ∧
                    (∃ z4 : Int, (((cellH h7 (Addr.add p2 ((Int.toNat z1) * 1))) = (some (Value.int .u8 z4))) ∧
                    (cond (decide (z4 < z2))
                      ((StOK h7 (Addr.mk (Array.size h1) 0 none) 1) ∧
                      (∀ h8 : Heap, ((h8 = (putH h7 (Addr.mk (Array.size h1) 0 none) (Value.int .i64 (1 : Int)))) →
                      (((h8)[(Array.size h4)]? = (some (mk1 (Go.LoopState.busy) (Go.Hv.Ex.normal)))) ∧
                      (∀ h9 : Heap, ((h9 = (Array.setIfInBounds h8 (Array.size h4) (mk1 (Go.LoopState.done) (Go.Hv.Ex.ret)))) →
                      (R1 (Value.bool false) h9)))))))
                      (((h7)[(Array.size h4)]? = (some (mk1 (Go.LoopState.busy) (Go.Hv.Ex.normal)))) ∧
                      (∀ h8 : Heap, ((h8 = (Array.setIfInBounds h7 (Array.size h4) (mk1 (Go.LoopState.ready) (Go.Hv.Ex.normal)))) →
                      (R1 (Value.bool true) h8))))))))))))))))))))))))) else
                  False))) else
                False)))) →
            (HV P (Value.func (Fn.yield (Array.size h4)) #[] #[]) #[v5, v6] h6
              (fun v7 h7 => (R1 v7 h7)))))))) →
          (asFn v4 (fun f1 h6 h7 => (HC P f1 (HAppend.hAppend (HAppend.hAppend h6 #[(Value.func (Fn.yield (Array.size h4)) #[] #[])]) h7) h5
            (fun v5 h41 => ((((h41)[(Array.size h4)]? = (some (mk1 (Go.LoopState.ready) (Go.Hv.Ex.normal)))) ∧
            (∀ h8 : Heap, ((h8 = (Array.setIfInBounds h41 (Array.size h4) (mk1 (Go.LoopState.exhausted) (Go.Hv.Ex.normal)))) →
            ((StOK h8 (Addr.mk (Array.size h1) 0 none) 1) ∧
            (∀ h9 : Heap, ((h9 = (putH h8 (Addr.mk (Array.size h1) 0 none) (Value.int .i64 (0 : Int)))) →
            (((h9)[(Array.size h3_1)]? = (some (Obj.deferred (some [])))) ∧
            (∀ h10 : Heap, ((h10 = (Array.setIfInBounds h9 (Array.size h3_1) (Obj.deferred none))) →
            (∃ z1 : Int, (((cellH h10 (Addr.mk (Array.size h1) 0 none)) = (some (Value.int .i64 z1))) ∧
            (R (Value.int .i64 z1) h10)))))))))))) ∨
            ((((h41)[(Array.size h4)]? = (some (mk1 (Go.LoopState.done) (Go.Hv.Ex.ret)))) ∧
            (∀ h8 : Heap, ((h8 = (Array.setIfInBounds h41 (Array.size h4) (mk1 (Go.LoopState.exhausted) (Go.Hv.Ex.ret)))) →
            (((h8)[(Array.size h3_1)]? = (some (Obj.deferred (some [])))) ∧
            (∀ h9 : Heap, ((h9 = (Array.setIfInBounds h8 (Array.size h3_1) (Obj.deferred none))) →
            (∃ z1 : Int, (((cellH h9 (Addr.mk (Array.size h1) 0 none)) = (some (Value.int .i64 z1))) ∧
            (R (Value.int .i64 z1) h9))))))))) ∨
            (((h41)[(Array.size h4)]? = (some (mk1 (Go.LoopState.done) (Go.Hv.Ex.ret)))) ∧
            (∀ h8 : Heap, ((h8 = (Array.setIfInBounds h41 (Array.size h4) (mk1 (Go.LoopState.exhausted) (Go.Hv.Ex.ret)))) →
            (((h8)[(Array.size h3_1)]? = (some (Obj.deferred (some [])))) ∧
            (∀ h9 : Heap, ((h9 = (Array.setIfInBounds h8 (Array.size h3_1) (Obj.deferred none))) →
            (∃ z1 : Int, (((cellH h9 (Addr.mk (Array.size h1) 0 none)) = (some (Value.int .i64 z1))) ∧
            (R (Value.int .i64 z1) h9))))))))))))))))))))))))))))))))))))))))))))))) :
  HC P F_large_Cmp #[.slice sa0.a sa0.n sa0.c, .slice sa1.a sa1.n sa1.c] h R :=
  HC.of_eqM (args := [.slice sa0.a sa0.n sa0.c, .slice sa1.a sa1.n sa1.c]) (fn := Tryd.f103) (by kernel_rfl) (by kernel_rfl) (by kernel_rfl) (by kernel_rfl) (qs := [29, 32, 35, 105, 119]) (by kernel_rfl) H

/-- webster/large.minus -/
theorem S_large_minus {sa0 : Sl} {sa1 : Sl} {h : Heap} {R : Value → Heap → Prop} (H :
  (((0 : Int) ≤ (sa0.n : Int)) ∧
  (((sa0.n : Int) ≤ (sa0.n : Int)) ∧
  (((sa0.n : Int) ≤ (1099511627776 : Int)) ∧
  ((1 ≤ 256) ∧
  ((1 = 1) ∧
  ((0 < 1) ∧
  (∀ h1 : Heap, ((h1 = (Array.push h (Obj.cells (List.toArray (List.flatten (List.replicate (Int.toNat (sa0.n : Int)) [(Value.int .u8 (0 : Int))]))) T_uint8 (0, 0)))) →
  (∃ I1 : (Int → (Int → (Heap → Prop))), (∃ μ1 : (Int → (Int → (Heap → Nat))), ((I1 (0 : Int) (0 : Int) h1) ∧
  (∀ z1 : Int, (∀ z2 : Int, (∀ h2 : Heap, ((I1 z1 z2 h2) →
  (cond (decide (z1 < (sa0.n : Int)))
    (HC P F_large_digit #[(Value.slice sa0.a sa0.n sa0.c), (Value.int .i64 z1)] h2
      (fun v1 h1_1 => (∃ z3 : Int, ((v1 = (Value.int .i64 z3)) ∧
      (HC P F_large_digit #[(Value.slice sa1.a sa1.n sa1.c), (Value.int .i64 z1)] h1_1
        (fun v2 h2_1 => (∃ z4 : Int, ((v2 = (Value.int .i64 z4)) ∧
        ((InI (z3 - z4)) ∧
        ((InI (z2 + (z3 - z4))) ∧
        (((0 : Int) ≤ z1) ∧
        ((z1 < (((Int.toNat (sa0.n : Int)) : Nat) : Int)) ∧
        ((StOK h2_1 (Addr.add (Addr.mk (Array.size h) 0 none) ((Int.toNat z1) * 1)) 1) ∧
        (∀ h3 : Heap, ((h3 = (putH h2_1 (Addr.add (Addr.mk (Array.size h) 0 none) ((Int.toNat z1) * 1)) (Value.int .u8 (IntKind.wrap (Go.IntKind.u8) (z2 + (z3 - z4)))))) →
        (((0 : Int) ≤ (8 : Int)) ∧
        (((8 : Int) < (64 : Int)) ∧
        ((InI (z1 + (1 : Int))) ∧
        ((I1 (z1 + (1 : Int)) ((z2 + (z3 - z4)) / (256 : Int)) h3) ∧
        ((μ1 (z1 + (1 : Int)) ((z2 + (z3 - z4)) / (256 : Int)) h3) < (μ1 z1 z2 h2)))))))))))))))))))))
    (HC P F_large_cut #[(Value.slice (some (Addr.mk (Array.size h) 0 none)) (Int.toNat (sa0.n : Int)) (Int.toNat (sa0.n : Int)))] h2
      (fun v1 h1_1 => (∃ s1 : Sl, ((v1 = (Value.slice s1.a s1.n s1.c)) ∧
      (R (Value.slice s1.a s1.n s1.c) h1_1)))))))))))))))))))))) :
  HC P F_large_minus #[.slice sa0.a sa0.n sa0.c, .slice sa1.a sa1.n sa1.c] h R :=
  HC.of_eq (args := [.slice sa0.a sa0.n sa0.c, .slice sa1.a sa1.n sa1.c]) (fn := Tryd.f104) (by kernel_rfl) (by kernel_rfl) (by kernel_rfl) (by kernel_rfl) (qs := [29, 32, 35, 105, 119]) (by kernel_rfl) H

/-- (*webster/flat.Memory).Obj -/
theorem S_flat_Memory_Obj {aa0 : Option Addr} {za1 : Int} {h : Heap} {R : Value → Heap → Prop} (H :
  (∀ h1 : Heap, ((h1 = (Array.push h (Obj.cells #[(Value.int .i64 (0 : Int)), (Value.int .i64 (0 : Int)), (Value.slice none 0 0), (Value.slice none 0 0)] T_api_Obj (0, 0)))) →
  (HC P F_flat_Memory_at #[(Value.pointer aa0), (Value.int .i64 za1)] h1
    (fun v1 h1_1 => (∃ a1 : (Option Addr), (∃ z1 : Int, ((v1 = (Value.tuple #[(Value.pointer a1), (Value.int .i64 z1)])) ∧
    (cond (z1 != (0 : Int))
      ((StOK h1_1 (Addr.mk (Array.size h) 0 none) 4) ∧
      (∀ h2 : Heap, ((h2 = (putsH h1_1 (Addr.mk (Array.size h) 0 none) [(Value.int .i64 (0 : Int)), (Value.int .i64 (0 : Int)), (Value.slice none 0 0), (Value.slice none 0 0)] 0)) →
      (∃ z2 : Int, (((cellH h2 (Addr.add (Addr.mk (Array.size h) 0 none) 0)) = (some (Value.int .i64 z2))) ∧
      (∃ z3 : Int, (((cellH h2 (Addr.add (Addr.mk (Array.size h) 0 none) 1)) = (some (Value.int .i64 z3))) ∧
      (∃ s1 : Sl, (((cellH h2 (Addr.add (Addr.mk (Array.size h) 0 none) 2)) = (some (Value.slice s1.a s1.n s1.c))) ∧
      (∃ s2 : Sl, (((cellH h2 (Addr.add (Addr.mk (Array.size h) 0 none) 3)) = (some (Value.slice s2.a s2.n s2.c))) ∧
      (R (Value.tuple #[(Value.agg #[(Value.int .i64 z2), (Value.int .i64 z3), (Value.slice s1.a s1.n s1.c), (Value.slice s2.a s2.n s2.c)]), (Value.int .i64 z1)]) h2))))))))))))
      (optE a1 False (fun p1 => (∃ z2 : Int, (((cellH h1_1 (Addr.add p1 0)) = (some (Value.int .i64 z2))) ∧
      (∃ z3 : Int, (((cellH h1_1 (Addr.add p1 1)) = (some (Value.int .i64 z3))) ∧
      (∃ s1 : Sl, (((cellH h1_1 (Addr.add p1 2)) = (some (Value.slice s1.a s1.n s1.c))) ∧
      (∃ s2 : Sl, (((cellH h1_1 (Addr.add p1 3)) = (some (Value.slice s2.a s2.n s2.c))) ∧
      (HC P F_wide_Copy #[(Value.agg #[(Value.int .i64 z2), (Value.int .i64 z3), (Value.slice s1.a s1.n s1.c), (Value.slice s2.a s2.n s2.c)])] h1_1
        (fun v2 h2 => (∃ z4 : Int, (∃ z5 : Int, (∃ s3 : Sl, (∃ s4 : Sl, ((v2 = (Value.agg #[(Value.int .i64 z4), (Value.int .i64 z5), (Value.slice s3.a s3.n s3.c), (Value.slice s4.a s4.n s4.c)])) ∧
        ((StOK h2 (Addr.mk (Array.size h) 0 none) 4) ∧
        (∀ h2_1 : Heap, ((h2_1 = (putsH h2 (Addr.mk (Array.size h) 0 none) [(Value.int .i64 z4), (Value.int .i64 z5), (Value.slice s3.a s3.n s3.c), (Value.slice s4.a s4.n s4.c)] 0)) →
        (∃ z6 : Int, (((cellH h2_1 (Addr.add (Addr.mk (Array.size h) 0 none) 0)) = (some (Value.int .i64 z6))) ∧
        (∃ z7 : Int, (((cellH h2_1 (Addr.add (Addr.mk (Array.size h) 0 none) 1)) = (some (Value.int .i64 z7))) ∧
        (∃ s5 : Sl, (((cellH h2_1 (Addr.add (Addr.mk (Array.size h) 0 none) 2)) = (some (Value.slice s5.a s5.n s5.c))) ∧
        (∃ s6 : Sl, (((cellH h2_1 (Addr.add (Addr.mk (Array.size h) 0 none) 3)) = (some (Value.slice s6.a s6.n s6.c))) ∧
        (R (Value.tuple #[(Value.agg #[(Value.int .i64 z6), (Value.int .i64 z7), (Value.slice s5.a s5.n s5.c), (Value.slice s6.a s6.n s6.c)]), (Value.int .i64 (0 : Int))]) h2_1)))))))))))))))))))))))))))))))))))))) :
  HC P F_flat_Memory_Obj #[.pointer aa0, .int .i64 za1] h R :=
  HC.of_eq (args := [.pointer aa0, .int .i64 za1]) (fn := Tryd.f156) (by kernel_rfl) (by kernel_rfl) (by kernel_rfl) (by kernel_rfl) (qs := [29, 32, 35, 105, 119]) (by kernel_rfl) H

/-- webster/flat.Ref -/
theorem S_flat_Ref {za0 : Int} {h : Heap} {R : Value → Heap → Prop} (H :
  (HC P F_word_Number #[(Value.int .i64 za0)] h
    (fun v1 h1 => (∃ z1 : Int, (∃ b1 : Bool, ((v1 = (Value.tuple #[(Value.int .i64 z1), (Value.bool b1)])) ∧
    (HC P F_word_Named #[(Value.int .i64 za0)] h1
      (fun v2 h2 => (∃ z2 : Int, (∃ b2 : Bool, ((v2 = (Value.tuple #[(Value.int .i64 z2), (Value.bool b2)])) ∧
      (cond b1
        (R (Value.bool true) h2)
        (R (Value.bool b2) h2))))))))))))) :
  HC P F_flat_Ref #[.int .i64 za0] h R :=
  HC.of_eq (args := [.int .i64 za0]) (fn := Tryd.f161) (by kernel_rfl) (by kernel_rfl) (by kernel_rfl) (by kernel_rfl) (qs := [29, 32, 35, 105, 119]) (by kernel_rfl) H

/-- math/bits.Mul -/
theorem S_math_bits_Mul {za0 : Int} {za1 : Int} {h : Heap} {R : Value → Heap → Prop} (H :
  (HC P F_math_bits_Mul64 #[(Value.int .u64 za0), (Value.int .u64 za1)] h
    (fun v1 h1 => (∃ z1 : Int, (∃ z2 : Int, ((v1 = (Value.tuple #[(Value.int .u64 z1), (Value.int .u64 z2)])) ∧
    (R (Value.tuple #[(Value.int .u64 z1), (Value.int .u64 z2)]) h1))))))) :
  HC P F_math_bits_Mul #[.int .u64 za0, .int .u64 za1] h R :=
  HC.of_eq (args := [.int .u64 za0, .int .u64 za1]) (fn := Tryd.f164) (by kernel_rfl) (by kernel_rfl) (by kernel_rfl) (by kernel_rfl) (qs := [29, 32, 35, 105, 119]) (by kernel_rfl) H

/-- webster/websterref05.Check -/
theorem S_websterref05_Check {za0_0 : Int} {za0_1 : Int} {sa0_2 : Sl} {sa0_3 : Sl} {h : Heap} {R : Value → Heap → Prop} (H :
  (∀ h1 : Heap, ((h1 = (Array.push h (Obj.cells #[(Value.int .i64 za0_0), (Value.int .i64 za0_1), (Value.slice sa0_2.a sa0_2.n sa0_2.c), (Value.slice sa0_3.a sa0_3.n sa0_3.c)] T_api_Obj (0, 0)))) →
  (∃ z1 : Int, (((cellH h1 (Addr.add (Addr.mk (Array.size h) 0 none) 0)) = (some (Value.int .i64 z1))) ∧
  (HC P F_websterref01_Named #[(Value.int .i64 z1)] h1
    (fun v1 h1_1 => (∃ z2 : Int, (∃ b1 : Bool, ((v1 = (Value.tuple #[(Value.int .i64 z2), (Value.bool b1)])) ∧
    (∀ J1 : (Int → (Heap → Prop)), ((∀ z3 : Int, (∀ h2 : Heap, ((∀ J2 : (Int → (Heap → Prop)), ((∀ z4 : Int, (∀ h3 : Heap, ((∃ I1 : (Int → (Int → (Heap → Prop))), (∃ μ1 : (Int → (Int → (Heap → Nat))), ((I1 (0 : Int) z4 h3) ∧
            (∀ z5 : Int, (∀ z6 : Int, (∀ h4 : Heap, ((I1 z5 z6 h4) →
            (∃ s1 : Sl, (((cellH h4 (Addr.add (Addr.mk (Array.size h) 0 none) 2)) = (some (Value.slice s1.a s1.n s1.c))) ∧
            (cond (decide (z5 < (s1.n : Int)))
              (∃ s2 : Sl, (((cellH h4 (Addr.add (Addr.mk (Array.size h) 0 none) 2)) = (some (Value.slice s2.a s2.n s2.c))) ∧
              (optE s2.a False (fun p1 => (((0 : Int) ≤ z5) ∧
              ((z5 < (s2.n : Int)) ∧
              (∃ z7 : Int, (((cellH h4 (Addr.add p1 ((Int.toNat z5) * 1))) = (some (Value.int .i64 z7))) ∧
              (HC P F_websterref05_Ref #[(Value.int .i64 z7)] h4
                (fun v2 h2_1 => (∃ b2 : Bool, ((v2 = (Value.bool b2)) ∧
                (cond (!b2)
                  (R (Value.int .i64 (2 : Int)) h2_1)
                  ((InI (z5 + (1 : Int))) ∧
                  ((I1 (z5 + (1 : Int)) z6 h2_1) ∧
                  ((μ1 (z5 + (1 : Int)) z6 h2_1) < (μ1 z5 z6 h4)))))))))))))))))
              (R (Value.int .i64 (0 : Int)) h4))))))))))) →
          (J2 z4 h3)))) →
        (∃ z4 : Int, (((cellH h2 (Addr.add (Addr.mk (Array.size h) 0 none) 1)) = (some (Value.int .i64 z4))) ∧
        (cond (z4 == (1 : Int))
          (∃ s1 : Sl, (((cellH h2 (Addr.add (Addr.mk (Array.size h) 0 none) 3)) = (some (Value.slice s1.a s1.n s1.c))) ∧
          (cond (decide ((0 : Int) < (s1.n : Int)))
            (R (Value.int .i64 (2 : Int)) h2)
            (∃ z5 : Int, (((cellH h2 (Addr.add (Addr.mk (Array.size h) 0 none) 1)) = (some (Value.int .i64 z5))) ∧
            (cond (z5 == (2 : Int))
              (∃ s2 : Sl, (((cellH h2 (Addr.add (Addr.mk (Array.size h) 0 none) 2)) = (some (Value.slice s2.a s2.n s2.c))) ∧
              (cond (decide ((0 : Int) < (s2.n : Int)))
                (R (Value.int .i64 (2 : Int)) h2)
                (J2 z3 h2))))
              (J2 z3 h2)))))))
          (∃ z5 : Int, (((cellH h2 (Addr.add (Addr.mk (Array.size h) 0 none) 1)) = (some (Value.int .i64 z5))) ∧
          (cond (z5 == (2 : Int))
            (∃ s1 : Sl, (((cellH h2 (Addr.add (Addr.mk (Array.size h) 0 none) 2)) = (some (Value.slice s1.a s1.n s1.c))) ∧
            (cond (decide ((0 : Int) < (s1.n : Int)))
              (R (Value.int .i64 (2 : Int)) h2)
              (J2 z3 h2))))
            (J2 z3 h2))))))))) →
      (J1 z3 h2)))) →
    (cond (!b1)
      (R (Value.int .i64 (2 : Int)) h1_1)
      (∃ z3 : Int, (((cellH h1_1 (Addr.add (Addr.mk (Array.size h) 0 none) 1)) = (some (Value.int .i64 z3))) ∧
      (cond (z3 != (1 : Int))
        (∃ z4 : Int, (((cellH h1_1 (Addr.add (Addr.mk (Array.size h) 0 none) 1)) = (some (Value.int .i64 z4))) ∧
        (cond (z4 != (2 : Int))
          (R (Value.int .i64 (2 : Int)) h1_1)
          (∃ s1 : Sl, (((cellH h1_1 (Addr.add (Addr.mk (Array.size h) 0 none) 2)) = (some (Value.slice s1.a s1.n s1.c))) ∧
          (cond (decide ((1000 : Int) < (s1.n : Int)))
            (R (Value.int .i64 (2 : Int)) h1_1)
            (∃ s2 : Sl, (((cellH h1_1 (Addr.add (Addr.mk (Array.size h) 0 none) 3)) = (some (Value.slice s2.a s2.n s2.c))) ∧
            (cond (decide ((1000 : Int) < (s2.n : Int)))
              (R (Value.int .i64 (2 : Int)) h1_1)
              (J1 (0 : Int) h1_1))))))))))
        (∃ s1 : Sl, (((cellH h1_1 (Addr.add (Addr.mk (Array.size h) 0 none) 2)) = (some (Value.slice s1.a s1.n s1.c))) ∧
        (cond (decide ((1000 : Int) < (s1.n : Int)))
          (R (Value.int .i64 (2 : Int)) h1_1)
          (∃ s2 : Sl, (((cellH h1_1 (Addr.add (Addr.mk (Array.size h) 0 none) 3)) = (some (Value.slice s2.a s2.n s2.c))) ∧
          (cond (decide ((1000 : Int) < (s2.n : Int)))
            (R (Value.int .i64 (2 : Int)) h1_1)
            (J1 (0 : Int) h1_1))))))))))))))))))))))) :
  HC P F_websterref05_Check #[.agg #[.int .i64 za0_0, .int .i64 za0_1, .slice sa0_2.a sa0_2.n sa0_2.c, .slice sa0_3.a sa0_3.n sa0_3.c]] h R :=
  HC.of_eq (args := [.agg #[.int .i64 za0_0, .int .i64 za0_1, .slice sa0_2.a sa0_2.n sa0_2.c, .slice sa0_3.a sa0_3.n sa0_3.c]]) (fn := Tryd.f49) (by kernel_rfl) (by kernel_rfl) (by kernel_rfl) (by kernel_rfl) (qs := [29, 32, 35, 105, 119, 30100004, 30100008]) (by kernel_rfl) H

/-- webster/prim.compared -/
theorem S_prim_compared {za0 : Int} {za1 : Int} {za2 : Int} {h : Heap} {R : Value → Heap → Prop} (H :
  (cond (za0 == (2 : Int))
    (HC P F_prim_truth #[(Value.bool (decide (za1 < za2)))] h
      (fun v1 h1 => (∃ z1 : Int, ((v1 = (Value.int .i64 z1)) ∧
      (R (Value.tuple #[(Value.int .i64 z1), (Value.bool true)]) h1)))))
    (cond (za0 == (3 : Int))
      (HC P F_prim_truth #[(Value.bool (decide (za2 < za1)))] h
        (fun v1 h1 => (∃ z1 : Int, ((v1 = (Value.int .i64 z1)) ∧
        (R (Value.tuple #[(Value.int .i64 z1), (Value.bool true)]) h1)))))
      (cond (za0 == (4 : Int))
        (HC P F_prim_truth #[(Value.bool (decide (za1 ≤ za2)))] h
          (fun v1 h1 => (∃ z1 : Int, ((v1 = (Value.int .i64 z1)) ∧
          (R (Value.tuple #[(Value.int .i64 z1), (Value.bool true)]) h1)))))
        (cond (za0 == (5 : Int))
          (HC P F_prim_truth #[(Value.bool (decide (za2 ≤ za1)))] h
            (fun v1 h1 => (∃ z1 : Int, ((v1 = (Value.int .i64 z1)) ∧
            (R (Value.tuple #[(Value.int .i64 z1), (Value.bool true)]) h1)))))
          (cond (za0 == (6 : Int))
            (HC P F_prim_truth #[(Value.bool (za1 == za2))] h
              (fun v1 h1 => (∃ z1 : Int, ((v1 = (Value.int .i64 z1)) ∧
              (R (Value.tuple #[(Value.int .i64 z1), (Value.bool true)]) h1)))))
            (cond (za0 == (7 : Int))
              (HC P F_prim_truth #[(Value.bool (za1 != za2))] h
                (fun v1 h1 => (∃ z1 : Int, ((v1 = (Value.int .i64 z1)) ∧
                (R (Value.tuple #[(Value.int .i64 z1), (Value.bool true)]) h1)))))
              (R (Value.tuple #[(Value.int .i64 (0 : Int)), (Value.bool false)]) h)))))))) :
  HC P F_prim_compared #[.int .i64 za0, .int .i64 za1, .int .i64 za2] h R :=
  HC.of_eq (args := [.int .i64 za0, .int .i64 za1, .int .i64 za2]) (fn := Tryd.f67) (by kernel_rfl) (by kernel_rfl) (by kernel_rfl) (by kernel_rfl) (qs := [29, 32, 35, 105, 119]) (by kernel_rfl) H

/-- webster/kit.Special -/
theorem S_kit_Special {va0 : Value} {za1 : Int} {h : Heap} {R : Value → Heap → Prop} (H :
  (HI P va0 "Fetch" #[(Value.int .i64 (8 : Int)), (Value.int .i64 za1)] h
    (fun v1 h1 => (∃ z1 : Int, (∃ z2 : Int, ((v1 = (Value.tuple #[(Value.int .i64 z1), (Value.int .i64 z2)])) ∧
    (R (Value.tuple #[(Value.int .i64 z1), (Value.int .i64 z2)]) h1))))))) :
  HC P F_kit_Special #[va0, .int .i64 za1] h R :=
  HC.of_eq (args := [va0, .int .i64 za1]) (fn := Tryd.f76) (by kernel_rfl) (by kernel_rfl) (by kernel_rfl) (by kernel_rfl) (qs := [29, 32, 35, 105, 119]) (by kernel_rfl) H

/-- webster/large.told -/
theorem S_large_told {sa0 : Sl} {h : Heap} {R : Value → Heap → Prop} (H :
  (HC P F_large_cut #[(Value.slice sa0.a sa0.n sa0.c)] h
    (fun v1 h1 => (∃ s1 : Sl, ((v1 = (Value.slice s1.a s1.n s1.c)) ∧
    (cond (decide ((400 : Int) < (s1.n : Int)))
      (R (Value.tuple #[(Value.slice none 0 0), (Value.int .i64 (3 : Int))]) h1)
      (R (Value.tuple #[(Value.slice s1.a s1.n s1.c), (Value.int .i64 (0 : Int))]) h1))))))) :
  HC P F_large_told #[.slice sa0.a sa0.n sa0.c] h R :=
  HC.of_eq (args := [.slice sa0.a sa0.n sa0.c]) (fn := Tryd.f102) (by kernel_rfl) (by kernel_rfl) (by kernel_rfl) (by kernel_rfl) (qs := [29, 32, 35, 105, 119]) (by kernel_rfl) H

/-- webster/prim.at -/
theorem S_prim_at {va0 : Value} {za1 : Int} {za2 : Int} {h : Heap} {R : Value → Heap → Prop} (H :
  (HC P F_prim_behind #[va0, (Value.int .i64 za1)] h
    (fun v1 h1 => (∃ z1 : Int, (∃ z2 : Int, (∃ z3 : Int, (∃ z4 : Int, ((v1 = (Value.tuple #[(Value.int .i64 z1), (Value.int .i64 z2), (Value.int .i64 z3), (Value.int .i64 z4)])) ∧
    (HC P F_word_Number #[(Value.int .i64 za2)] h1
      (fun v2 h2 => (∃ z5 : Int, (∃ b1 : Bool, ((v2 = (Value.tuple #[(Value.int .i64 z5), (Value.bool b1)])) ∧
      (∀ J1 : (Int → (Heap → Prop)), ((∀ z6 : Int, (∀ h1_1 : Heap, (((InI (z1 + z5)) ∧
          ((InI ((z1 + z5) - (1 : Int))) ∧
          (R (Value.tuple #[(Value.int .i64 ((z1 + z5) - (1 : Int))), (Value.int .i64 z3), (Value.int .i64 z6)]) h1_1))) →
        (J1 z6 h1_1)))) →
      (cond (z4 == (0 : Int))
        (cond (!b1)
          (J1 (21 : Int) h2)
          (cond (decide (z5 < (1 : Int)))
            (J1 (21 : Int) h2)
            (cond (decide (z2 < z5))
              (J1 (21 : Int) h2)
              (J1 z4 h2))))
        (J1 z4 h2))))))))))))))))) :
  HC P F_prim_at #[va0, .int .i64 za1, .int .i64 za2] h R :=
  HC.of_eq (args := [va0, .int .i64 za1, .int .i64 za2]) (fn := Tryd.f107) (by kernel_rfl) (by kernel_rfl) (by kernel_rfl) (by kernel_rfl) (qs := [29, 32, 35, 105, 119, 30100006]) (by kernel_rfl) H

/-- webster/flat.Class -/
theorem S_flat_Class {va0 : Value} {za1 : Int} {h : Heap} {R : Value → Heap → Prop} (H :
  (HI P va0 "Obj" #[(Value.int .i64 za1)] h
    (fun v1 h1 => (∃ z1 : Int, (∃ z2 : Int, (∃ s1 : Sl, (∃ s2 : Sl, (∃ z3 : Int, ((v1 = (Value.tuple #[(Value.agg #[(Value.int .i64 z1), (Value.int .i64 z2), (Value.slice s1.a s1.n s1.c), (Value.slice s2.a s2.n s2.c)]), (Value.int .i64 z3)])) ∧
    (∀ h1_1 : Heap, ((h1_1 = (Array.push h1 (Obj.cells #[(Value.int .i64 (0 : Int)), (Value.int .i64 (0 : Int)), (Value.slice none 0 0), (Value.slice none 0 0)] T_api_Obj (0, 0)))) →
    ((StOK h1_1 (Addr.mk (Array.size h1) 0 none) 4) ∧
    (∀ h2 : Heap, ((h2 = (putsH h1_1 (Addr.mk (Array.size h1) 0 none) [(Value.int .i64 z1), (Value.int .i64 z2), (Value.slice s1.a s1.n s1.c), (Value.slice s2.a s2.n s2.c)] 0)) →
    (∃ z4 : Int, (((cellH h2 (Addr.add (Addr.mk (Array.size h1) 0 none) 0)) = (some (Value.int .i64 z4))) ∧
    (R (Value.tuple #[(Value.int .i64 z4), (Value.int .i64 z3)]) h2))))))))))))))))) :
  HC P F_flat_Class #[va0, .int .i64 za1] h R :=
  HC.of_eq (args := [va0, .int .i64 za1]) (fn := Tryd.f110) (by kernel_rfl) (by kernel_rfl) (by kernel_rfl) (by kernel_rfl) (qs := [29, 32, 35, 105, 119]) (by kernel_rfl) H

/-- webster/large.cut -/
theorem S_large_cut {sa0 : Sl} {h : Heap} {R : Value → Heap → Prop} (H :
  (∀ J1 : (Int → (Heap → Prop)), ((∀ z1 : Int, (∀ h1 : Heap, ((((0 : Int) ≤ z1) ∧
      ((z1 ≤ z1) ∧
      ((z1 ≤ (sa0.c : Int)) ∧
      (R (Value.slice sa0.a (Int.toNat z1) (Int.toNat z1)) h1)))) →
    (J1 z1 h1)))) →
  (∃ I1 : (Int → (Heap → Prop)), (∃ μ1 : (Int → (Heap → Nat)), ((I1 (sa0.n : Int) h) ∧
  (∀ z1 : Int, (∀ h1 : Heap, ((I1 z1 h1) →
  (cond (decide ((0 : Int) < z1))
    ((InI (z1 - (1 : Int))) ∧
    (optE sa0.a False (fun p1 => (((0 : Int) ≤ (z1 - (1 : Int))) ∧
    (((z1 - (1 : Int)) < (sa0.n : Int)) ∧
    (∃ z2 : Int, (((cellH h1 (Addr.add p1 ((Int.toNat (z1 - (1 : Int))) * 1))) = (some (Value.int .u8 z2))) ∧
    (cond (z2 != (0 : Int))
      (J1 z1 h1)
      ((InI (z1 - (1 : Int))) ∧
      ((I1 (z1 - (1 : Int)) h1) ∧
      ((μ1 (z1 - (1 : Int)) h1) < (μ1 z1 h1))))))))))))
    (J1 z1 h1))))))))))) :
  HC P F_large_cut #[.slice sa0.a sa0.n sa0.c] h R :=
  HC.of_eq (args := [.slice sa0.a sa0.n sa0.c]) (fn := Tryd.f125) (by kernel_rfl) (by kernel_rfl) (by kernel_rfl) (by kernel_rfl) (qs := [29, 32, 35, 105, 119, 30000001]) (by kernel_rfl) H

/-- (*webster/flat.Memory).Become -/
theorem S_flat_Memory_Become {aa0 : Option Addr} {za1 : Int} {za2 : Int} {h : Heap} {R : Value → Heap → Prop} (H :
  (HC P F_flat_Memory_at #[(Value.pointer aa0), (Value.int .i64 za1)] h
    (fun v1 h1 => (∃ a1 : (Option Addr), (∃ z1 : Int, ((v1 = (Value.tuple #[(Value.pointer a1), (Value.int .i64 z1)])) ∧
    (cond (z1 != (0 : Int))
      (R (Value.int .i64 z1) h1)
      (HC P F_flat_Memory_at #[(Value.pointer aa0), (Value.int .i64 za2)] h1
        (fun v2 h2 => (∃ a2 : (Option Addr), (∃ z2 : Int, ((v2 = (Value.tuple #[(Value.pointer a2), (Value.int .i64 z2)])) ∧
        (cond (z2 != (0 : Int))
          (R (Value.int .i64 z2) h2)
          (optE a2 False (fun p1 => (∃ z3 : Int, (((cellH h2 (Addr.add p1 0)) = (some (Value.int .i64 z3))) ∧
          (∃ z4 : Int, (((cellH h2 (Addr.add p1 1)) = (some (Value.int .i64 z4))) ∧
          (∃ s1 : Sl, (((cellH h2 (Addr.add p1 2)) = (some (Value.slice s1.a s1.n s1.c))) ∧
          (∃ s2 : Sl, (((cellH h2 (Addr.add p1 3)) = (some (Value.slice s2.a s2.n s2.c))) ∧
          (optE a1 False (fun p2 => (∃ z5 : Int, (((cellH h2 (Addr.add p2 0)) = (some (Value.int .i64 z5))) ∧
          (∃ z6 : Int, (((cellH h2 (Addr.add p2 1)) = (some (Value.int .i64 z6))) ∧
          (∃ s3 : Sl, (((cellH h2 (Addr.add p2 2)) = (some (Value.slice s3.a s3.n s3.c))) ∧
          (∃ s4 : Sl, (((cellH h2 (Addr.add p2 3)) = (some (Value.slice s4.a s4.n s4.c))) ∧
          (optE a1 False (fun p3 => ((StOK h2 p3 4) ∧
          (∀ h1_1 : Heap, ((h1_1 = (putsH h2 p3 [(Value.int .i64 z3), (Value.int .i64 z4), (Value.slice s1.a s1.n s1.c), (Value.slice s2.a s2.n s2.c)] 0)) →
          (optE a2 False (fun p4 => ((StOK h1_1 p4 4) ∧
          (∀ h2_1 : Heap, ((h2_1 = (putsH h1_1 p4 [(Value.int .i64 z5), (Value.int .i64 z6), (Value.slice s3.a s3.n s3.c), (Value.slice s4.a s4.n s4.c)] 0)) →
          (R (Value.int .i64 (0 : Int)) h2_1)))))))))))))))))))))))))))))))))))))))))))) :
  HC P F_flat_Memory_Become #[.pointer aa0, .int .i64 za1, .int .i64 za2] h R :=
  HC.of_eq (args := [.pointer aa0, .int .i64 za1, .int .i64 za2]) (fn := Tryd.f152) (by kernel_rfl) (by kernel_rfl) (by kernel_rfl) (by kernel_rfl) (qs := [29, 32, 35, 105, 119]) (by kernel_rfl) H

/-- slices.Clone[[]int,int] -/
theorem S_slices_Clone_int_int {sa0 : Sl} {h : Heap} {R : Value → Heap → Prop} (H :
  (cond (Option.isNone sa0.a)
    (R (Value.slice none 0 0) h)
    (∀ h1 : Heap, ((h1 = (Array.push h (Obj.cells #[] T_int (0, 0)))) →
    ((AppOK h1 1 (some (Addr.mk (Array.size h) 0 none)) 0 0 sa0.a sa0.n 8) ∧
    ((1 = 1) ∧
    (∀ s1 : Sl, (∀ h2 : Heap, ((Appended h1 1 [(Value.int .i64 (0 : Int))] T_int (some (Addr.mk (Array.size h) 0 none)) 0 0 sa0.a sa0.n s1 h2) →
    (R (Value.slice s1.a s1.n s1.c) h2)))))))))) :
  HC P F_slices_Clone_int_int #[.slice sa0.a sa0.n sa0.c] h R :=
  HC.of_eq (args := [.slice sa0.a sa0.n sa0.c]) (fn := Tryd.f163) (by kernel_rfl) (by kernel_rfl) (by kernel_rfl) (by kernel_rfl) (qs := [29, 32, 35, 105, 119]) (by kernel_rfl) H

/-- webster/websterref16.Same -/
theorem S_websterref16_Same {sa0_0 : Sl} {sa1 : Sl} {h : Heap} {R : Value → Heap → Prop} (H :
  (∀ h1 : Heap, ((h1 = (Array.push h (Obj.cells #[(Value.slice sa0_0.a sa0_0.n sa0_0.c)] T_websterref10_Memory (0, 0)))) →
  (∃ s1 : Sl, (((cellH h1 (Addr.add (Addr.mk (Array.size h) 0 none) 0)) = (some (Value.slice s1.a s1.n s1.c))) ∧
  (cond ((s1.n : Int) != (sa1.n : Int))
    (R (Value.bool false) h1)
    (∃ I1 : (Int → (Bool → (Heap → Prop))), (∃ μ1 : (Int → (Bool → (Heap → Nat))), ((I1 (0 : Int) false h1) ∧
    (∀ z1 : Int, (∀ b1 : Bool, (∀ h2 : Heap, ((I1 z1 b1 h2) →
    (cond (decide (z1 < (sa1.n : Int)))
      (∃ s2 : Sl, (((cellH h2 (Addr.add (Addr.mk (Array.size h) 0 none) 0)) = (some (Value.slice s2.a s2.n s2.c))) ∧
      (optE s2.a False (fun p1 => (((0 : Int) ≤ z1) ∧
      ((z1 < (s2.n : Int)) ∧
      (∃ z2 : Int, (((cellH h2 (Addr.add (Addr.add p1 ((Int.toNat z1) * 4)) 0)) = (some (Value.int .i64 z2))) ∧
      (∃ z3 : Int, (((cellH h2 (Addr.add (Addr.add p1 ((Int.toNat z1) * 4)) 1)) = (some (Value.int .i64 z3))) ∧
      (∃ s3 : Sl, (((cellH h2 (Addr.add (Addr.add p1 ((Int.toNat z1) * 4)) 2)) = (some (Value.slice s3.a s3.n s3.c))) ∧
      (∃ s4 : Sl, (((cellH h2 (Addr.add (Addr.add p1 ((Int.toNat z1) * 4)) 3)) = (some (Value.slice s4.a s4.n s4.c))) ∧
      (optE sa1.a False (fun p2 => (((0 : Int) ≤ z1) ∧
      ((z1 < (sa1.n : Int)) ∧
      (∃ z4 : Int, (((cellH h2 (Addr.add (Addr.add p2 ((Int.toNat z1) * 4)) 0)) = (some (Value.int .i64 z4))) ∧
      (∃ z5 : Int, (((cellH h2 (Addr.add (Addr.add p2 ((Int.toNat z1) * 4)) 1)) = (some (Value.int .i64 z5))) ∧
      (∃ s5 : Sl, (((cellH h2 (Addr.add (Addr.add p2 ((Int.toNat z1) * 4)) 2)) = (some (Value.slice s5.a s5.n s5.c))) ∧
      (∃ s6 : Sl, (((cellH h2 (Addr.add (Addr.add p2 ((Int.toNat z1) * 4)) 3)) = (some (Value.slice s6.a s6.n s6.c))) ∧
      (HC P F_websterref05_Same #[(Value.agg #[(Value.int .i64 z2), (Value.int .i64 z3), (Value.slice s3.a s3.n s3.c), (Value.slice s4.a s4.n s4.c)]), (Value.agg #[(Value.int .i64 z4), (Value.int .i64 z5), (Value.slice s5.a s5.n s5.c), (Value.slice s6.a s6.n s6.c)])] h2
        (fun v1 h1_1 => (∃ b2 : Bool, ((v1 = (Value.bool b2)) ∧
        (cond (!b2)
          (R (Value.bool false) h1_1)
          ((InI (z1 + (1 : Int))) ∧
          ((I1 (z1 + (1 : Int)) b1 h1_1) ∧
          ((μ1 (z1 + (1 : Int)) b1 h1_1) < (μ1 z1 b1 h2)))))))))))))))))))))))))))))))))))
      (R (Value.bool true) h2))))))))))))))) :
  HC P F_websterref16_Same #[.agg #[.slice sa0_0.a sa0_0.n sa0_0.c], .slice sa1.a sa1.n sa1.c] h R :=
  HC.of_eq (args := [.agg #[.slice sa0_0.a sa0_0.n sa0_0.c], .slice sa1.a sa1.n sa1.c]) (fn := Tryd.f24) (by kernel_rfl) (by kernel_rfl) (by kernel_rfl) (by kernel_rfl) (qs := [29, 32, 35, 105, 119]) (by kernel_rfl) H

/-- slices.ContainsFunc[[]webster/api.Obj,webster/api.Obj] -/
theorem S_slices_ContainsFunc_api_Obj_api_Obj {sa0 : Sl} {va1 : Value} {h : Heap} {R : Value → Heap → Prop} (H :
  (HC P F_slices_IndexFunc_api_Obj_api_Obj #[(Value.slice sa0.a sa0.n sa0.c), va1] h
    (fun v1 h1 => (∃ z1 : Int, ((v1 = (Value.int .i64 z1)) ∧
    (R (Value.bool (decide ((0 : Int) ≤ z1))) h1)))))) :
  HC P F_slices_ContainsFunc_api_Obj_api_Obj #[.slice sa0.a sa0.n sa0.c, va1] h R :=
  HC.of_eq (args := [.slice sa0.a sa0.n sa0.c, va1]) (fn := Tryd.f40) (by kernel_rfl) (by kernel_rfl) (by kernel_rfl) (by kernel_rfl) (qs := [29, 32, 35, 105, 119]) (by kernel_rfl) H

/-- webster/flat.Load$1 -/
theorem S_flat_Load_1 {za0_0 : Int} {za0_1 : Int} {sa0_2 : Sl} {sa0_3 : Sl} {h : Heap} {R : Value → Heap → Prop} (H :
  (∀ h1 : Heap, ((h1 = (Array.push h (Obj.cells #[(Value.int .i64 za0_0), (Value.int .i64 za0_1), (Value.slice sa0_2.a sa0_2.n sa0_2.c), (Value.slice sa0_3.a sa0_3.n sa0_3.c)] T_api_Obj (0, 0)))) →
  (∃ z1 : Int, (((cellH h1 (Addr.add (Addr.mk (Array.size h) 0 none) 0)) = (some (Value.int .i64 z1))) ∧
  (∃ z2 : Int, (((cellH h1 (Addr.add (Addr.mk (Array.size h) 0 none) 1)) = (some (Value.int .i64 z2))) ∧
  (∃ s1 : Sl, (((cellH h1 (Addr.add (Addr.mk (Array.size h) 0 none) 2)) = (some (Value.slice s1.a s1.n s1.c))) ∧
  (∃ s2 : Sl, (((cellH h1 (Addr.add (Addr.mk (Array.size h) 0 none) 3)) = (some (Value.slice s2.a s2.n s2.c))) ∧
  (HC P F_wide_Check #[(Value.agg #[(Value.int .i64 z1), (Value.int .i64 z2), (Value.slice s1.a s1.n s1.c), (Value.slice s2.a s2.n s2.c)])] h1
    (fun v1 h1_1 => (∃ z3 : Int, ((v1 = (Value.int .i64 z3)) ∧
    (R (Value.bool (z3 != (0 : Int))) h1_1)))))))))))))))) :
  HC P F_flat_Load_1 #[.agg #[.int .i64 za0_0, .int .i64 za0_1, .slice sa0_2.a sa0_2.n sa0_2.c, .slice sa0_3.a sa0_3.n sa0_3.c]] h R :=
  HC.of_eq (args := [.agg #[.int .i64 za0_0, .int .i64 za0_1, .slice sa0_2.a sa0_2.n sa0_2.c, .slice sa0_3.a sa0_3.n sa0_3.c]]) (fn := Tryd.f41) (by kernel_rfl) (by kernel_rfl) (by kernel_rfl) (by kernel_rfl) (qs := [29, 32, 35, 105, 119]) (by kernel_rfl) H

/-- (*webster/flat.Memory).place -/
theorem S_flat_Memory_place {aa0 : Option Addr} {za1 : Int} {za2 : Int} {za3 : Int} {h : Heap} {R : Value → Heap → Prop} (H :
  (HC P F_flat_Memory_at #[(Value.pointer aa0), (Value.int .i64 za1)] h
    (fun v1 h1 => (∃ a1 : (Option Addr), (∃ z1 : Int, ((v1 = (Value.tuple #[(Value.pointer a1), (Value.int .i64 z1)])) ∧
    (cond (z1 != (0 : Int))
      (R (Value.tuple #[(Value.pointer none), (Value.int .i64 z1)]) h1)
      (optE a1 False (fun p1 => (∃ z2 : Int, (((cellH h1 (Addr.add p1 1)) = (some (Value.int .i64 z2))) ∧
      (cond (z2 != za2)
        (R (Value.tuple #[(Value.pointer none), (Value.int .i64 (20 : Int))]) h1)
        (cond (decide (za3 < (0 : Int)))
          (R (Value.tuple #[(Value.pointer none), (Value.int .i64 (21 : Int))]) h1)
          (optE a1 False (fun p2 => (∃ z3 : Int, (((cellH h1 (Addr.add p2 0)) = (some (Value.int .i64 z3))) ∧
          (∃ z4 : Int, (((cellH h1 (Addr.add p2 1)) = (some (Value.int .i64 z4))) ∧
          (∃ s1 : Sl, (((cellH h1 (Addr.add p2 2)) = (some (Value.slice s1.a s1.n s1.c))) ∧
          (∃ s2 : Sl, (((cellH h1 (Addr.add p2 3)) = (some (Value.slice s2.a s2.n s2.c))) ∧
          (HC P F_wide_Size #[(Value.agg #[(Value.int .i64 z3), (Value.int .i64 z4), (Value.slice s1.a s1.n s1.c), (Value.slice s2.a s2.n s2.c)])] h1
            (fun v2 h2 => (∃ z5 : Int, ((v2 = (Value.int .i64 z5)) ∧
            (cond (decide (z5 ≤ za3))
              (R (Value.tuple #[(Value.pointer none), (Value.int .i64 (21 : Int))]) h2)
              (R (Value.tuple #[(Value.pointer a1), (Value.int .i64 (0 : Int))]) h2))))))))))))))))))))))))))))) :
  HC P F_flat_Memory_place #[.pointer aa0, .int .i64 za1, .int .i64 za2, .int .i64 za3] h R :=
  HC.of_eq (args := [.pointer aa0, .int .i64 za1, .int .i64 za2, .int .i64 za3]) (fn := Tryd.f48) (by kernel_rfl) (by kernel_rfl) (by kernel_rfl) (by kernel_rfl) (qs := [29, 32, 35, 105, 119]) (by kernel_rfl) H

/-- webster/websterref00.Same -/
theorem S_websterref00_Same {sa0 : Sl} {sa1 : Sl} {h : Heap} {R : Value → Heap → Prop} (H :
  (∃ t1 : ByteArray, ((bytesAt h sa0.a sa0.n t1) ∧
  (∃ t2 : ByteArray, ((bytesAt h sa1.a sa1.n t2) ∧
  (R (Value.bool (strEq t1 t2)) h)))))) :
  HC P F_websterref00_Same #[.slice sa0.a sa0.n sa0.c, .slice sa1.a sa1.n sa1.c] h R :=
  HC.of_eq (args := [.slice sa0.a sa0.n sa0.c, .slice sa1.a sa1.n sa1.c]) (fn := Tryd.f63) (by kernel_rfl) (by kernel_rfl) (by kernel_rfl) (by kernel_rfl) (qs := [29, 32, 35, 105, 119]) (by kernel_rfl) H

/-- webster/wide.Check$1 -/
theorem S_wide_Check_1 {za0 : Int} {h : Heap} {R : Value → Heap → Prop} (H :
  (HC P F_wide_ref #[(Value.int .i64 za0)] h
    (fun v1 h1 => (∃ b1 : Bool, ((v1 = (Value.bool b1)) ∧
    (R (Value.bool (!b1)) h1)))))) :
  HC P F_wide_Check_1 #[.int .i64 za0] h R :=
  HC.of_eq (args := [.int .i64 za0]) (fn := Tryd.f65) (by kernel_rfl) (by kernel_rfl) (by kernel_rfl) (by kernel_rfl) (qs := [29, 32, 35, 105, 119]) (by kernel_rfl) H

/-- slices.Index[[]int,int] -/
theorem S_slices_Index_int_int {sa0 : Sl} {za1 : Int} {h : Heap} {R : Value → Heap → Prop} (H :
  (∃ I1 : (Int → (Int → (Heap → Prop))), (∃ μ1 : (Int → (Int → (Heap → Nat))), ((I1 (0 : Int) (0 : Int) h) ∧
  (∀ z1 : Int, (∀ z2 : Int, (∀ h1 : Heap, ((I1 z1 z2 h1) →
  (cond (decide (z1 < (sa0.n : Int)))
    (optE sa0.a False (fun p1 => (((0 : Int) ≤ z1) ∧
    ((z1 < (sa0.n : Int)) ∧
    (∃ z3 : Int, (((cellH h1 (Addr.add p1 ((Int.toNat z1) * 1))) = (some (Value.int .i64 z3))) ∧
    (cond (za1 == z3)
      (R (Value.int .i64 z1) h1)
      ((InI (z1 + (1 : Int))) ∧
      ((I1 (z1 + (1 : Int)) z2 h1) ∧
      ((μ1 (z1 + (1 : Int)) z2 h1) < (μ1 z1 z2 h1)))))))))))
    (R (Value.int .i64 (-1 : Int)) h1)))))))))) :
  HC P F_slices_Index_int_int #[.slice sa0.a sa0.n sa0.c, .int .i64 za1] h R :=
  HC.of_eq (args := [.slice sa0.a sa0.n sa0.c, .int .i64 za1]) (fn := Tryd.f70) (by kernel_rfl) (by kernel_rfl) (by kernel_rfl) (by kernel_rfl) (qs := [29, 32, 35, 105, 119]) (by kernel_rfl) H

/-- webster/large.Add -/
theorem S_large_Add {sa0 : Sl} {sa1 : Sl} {h : Heap} {R : Value → Heap → Prop} (H :
  (HC P F_large_Right #[(Value.slice sa0.a sa0.n sa0.c)] h
    (fun v1 h1 => (∃ b1 : Bool, ((v1 = (Value.bool b1)) ∧
    (cond (!b1)
      (R (Value.tuple #[(Value.slice none 0 0), (Value.int .i64 (2 : Int))]) h1)
      (HC P F_slices_ContainsFunc_byte_byte #[(Value.slice sa1.a sa1.n sa1.c), (Value.func (Fn.func F_large_Add_1) #[] #[])] h1
        (fun v2 h2 => (∃ b2 : Bool, ((v2 = (Value.bool b2)) ∧
        (cond b2
          (R (Value.tuple #[(Value.slice none 0 0), (Value.int .i64 (2 : Int))]) h2)
          (HC P F_slices_Clone_byte_byte #[(Value.slice sa0.a sa0.n sa0.c)] h2
            (fun v3 h3 => (∃ s1 : Sl, ((v3 = (Value.slice s1.a s1.n s1.c)) ∧
            (∃ I1 : (Int → (Sl → (Heap → Prop))), (∃ μ1 : (Int → (Sl → (Heap → Nat))), ((I1 (0 : Int) (Sl.mk s1.a s1.n s1.c) h3) ∧
            (∀ z1 : Int, (∀ s2 : Sl, (∀ h1_1 : Heap, ((I1 z1 s2 h1_1) →
            (cond (decide (z1 < (sa1.n : Int)))
              (optE sa1.a False (fun p1 => (((0 : Int) ≤ z1) ∧
              ((z1 < (sa1.n : Int)) ∧
              (∃ s3 : Sl, (((cellH h1_1 (Addr.add p1 ((Int.toNat z1) * 1))) = (some (Value.slice s3.a s3.n s3.c))) ∧
              (HC P F_large_plus #[(Value.slice s2.a s2.n s2.c), (Value.slice s3.a s3.n s3.c)] h1_1
                (fun v4 h4 => (∃ s4 : Sl, ((v4 = (Value.slice s4.a s4.n s4.c)) ∧
                ((InI (z1 + (1 : Int))) ∧
                ((I1 (z1 + (1 : Int)) (Sl.mk s4.a s4.n s4.c) h4) ∧
                ((μ1 (z1 + (1 : Int)) (Sl.mk s4.a s4.n s4.c) h4) < (μ1 z1 s2 h1_1))))))))))))))
              (HC P F_large_told #[(Value.slice s2.a s2.n s2.c)] h1_1
                (fun v4 h4 => (∃ s3 : Sl, (∃ z2 : Int, ((v4 = (Value.tuple #[(Value.slice s3.a s3.n s3.c), (Value.int .i64 z2)])) ∧
                (R (Value.tuple #[(Value.slice s3.a s3.n s3.c), (Value.int .i64 z2)]) h4))))))))))))))))))))))))))))) :
  HC P F_large_Add #[.slice sa0.a sa0.n sa0.c, .slice sa1.a sa1.n sa1.c] h R :=
  HC.of_eq (args := [.slice sa0.a sa0.n sa0.c, .slice sa1.a sa1.n sa1.c]) (fn := Tryd.f72) (by kernel_rfl) (by kernel_rfl) (by kernel_rfl) (by kernel_rfl) (qs := [29, 32, 35, 105, 119]) (by kernel_rfl) H

/-- webster/prim.put -/
theorem S_prim_put {va0 : Value} {za1 : Int} {za2 : Int} {za3 : Int} {h : Heap} {R : Value → Heap → Prop} (H :
  (HC P F_prim_at #[va0, (Value.int .i64 za1), (Value.int .i64 za2)] h
    (fun v1 h1 => (∃ z1 : Int, (∃ z2 : Int, (∃ z3 : Int, ((v1 = (Value.tuple #[(Value.int .i64 z1), (Value.int .i64 z2), (Value.int .i64 z3)])) ∧
    (cond (z3 != (0 : Int))
      (R (Value.tuple #[(Value.int .i64 (0 : Int)), (Value.int .i64 z3)]) h1)
      (cond (z2 == (1 : Int))
        (HI P va0 "Set" #[(Value.int .i64 za1), (Value.int .i64 z1), (Value.int .i64 za3)] h1
          (fun v2 h2 => (∃ z4 : Int, ((v2 = (Value.int .i64 z4)) ∧
          (R (Value.tuple #[(Value.int .i64 za3), (Value.int .i64 z4)]) h2)))))
        (HC P F_word_Number #[(Value.int .i64 za3)] h1
          (fun v2 h2 => (∃ z4 : Int, (∃ b1 : Bool, ((v2 = (Value.tuple #[(Value.int .i64 z4), (Value.bool b1)])) ∧
          (cond (!b1)
            (R (Value.tuple #[(Value.int .i64 (0 : Int)), (Value.int .i64 (2 : Int))]) h2)
            (HI P va0 "SetByte" #[(Value.int .i64 za1), (Value.int .i64 z1), (Value.int .i64 z4)] h2
              (fun v3 h3 => (∃ z5 : Int, ((v3 = (Value.int .i64 z5)) ∧
              (R (Value.tuple #[(Value.int .i64 za3), (Value.int .i64 z5)]) h3)))))))))))))))))))) :
  HC P F_prim_put #[va0, .int .i64 za1, .int .i64 za2, .int .i64 za3] h R :=
  HC.of_eq (args := [va0, .int .i64 za1, .int .i64 za2, .int .i64 za3]) (fn := Tryd.f79) (by kernel_rfl) (by kernel_rfl) (by kernel_rfl) (by kernel_rfl) (qs := [29, 32, 35, 105, 119]) (by kernel_rfl) H

/-- webster/prim.truth -/
theorem S_prim_truth {ba0 : Bool} {h : Heap} {R : Value → Heap → Prop} (H :
  (cond ba0
    (R (Value.int .i64 (4 : Int)) h)
    (R (Value.int .i64 (6 : Int)) h))) :
  HC P F_prim_truth #[.bool ba0] h R :=
  HC.of_eq (args := [.bool ba0]) (fn := Tryd.f83) (by kernel_rfl) (by kernel_rfl) (by kernel_rfl) (by kernel_rfl) (qs := [29, 32, 35, 105, 119]) (by kernel_rfl) H

/-- (*webster/flat.Memory).at -/
theorem S_flat_Memory_at {aa0 : Option Addr} {za1 : Int} {h : Heap} {R : Value → Heap → Prop} (H :
  (cond (Option.isNone aa0)
    (R (Value.tuple #[(Value.pointer none), (Value.int .i64 (1 : Int))]) h)
    (HC P F_word_Named #[(Value.int .i64 za1)] h
      (fun v1 h1 => (∃ z1 : Int, (∃ b1 : Bool, ((v1 = (Value.tuple #[(Value.int .i64 z1), (Value.bool b1)])) ∧
      (optE aa0 False (fun p1 => (∃ a1 : (Option Nat), (((cellH h1 (Addr.add p1 0)) = (some (Value.map a1))) ∧
      (optE a1 (R (Value.tuple #[(Value.pointer none), (Value.int .i64 (4 : Int))]) h1) (fun r1 => (∃ h1_1 : (Array MapEntry), (∃ clk1 : Nat, (((h1)[r1]? = (some (Obj.map h1_1 clk1))) ∧
      ((IntKeys (Go.IntKind.i64) h1_1) ∧
      (∃ a2 : (Option Addr), (((Option.getD (mget h1_1 z1) (Value.pointer none)) = (Value.pointer a2)) ∧
      (cond (Option.isNone a2)
        (R (Value.tuple #[(Value.pointer none), (Value.int .i64 (4 : Int))]) h1)
        (R (Value.tuple #[(Value.pointer a2), (Value.int .i64 (0 : Int))]) h1))))))))))))))))))))) :
  HC P F_flat_Memory_at #[.pointer aa0, .int .i64 za1] h R :=
  HC.of_eq (args := [.pointer aa0, .int .i64 za1]) (fn := Tryd.f85) (by kernel_rfl) (by kernel_rfl) (by kernel_rfl) (by kernel_rfl) (qs := [29, 32, 35, 105, 119]) (by kernel_rfl) H

/-- webster/prim.down -/
theorem S_prim_down {za0 : Int} {za1 : Int} {h : Heap} {R : Value → Heap → Prop} (H :
  ((za1 ≠ (0 : Int)) ∧
  ((InI (Int.tdiv za0 za1)) ∧
  ((za1 ≠ (0 : Int)) ∧
  (∀ J1 : (Int → (Int → (Heap → Prop))), ((∀ z1 : Int, (∀ z2 : Int, (∀ h1 : Heap, ((R (Value.tuple #[(Value.int .i64 (Int.tdiv za0 za1)), (Value.int .i64 (Int.tmod za0 za1))]) h1) →
    (J1 z1 z2 h1))))) →
  (cond ((Int.tmod za0 za1) != (0 : Int))
    (cond ((decide ((Int.tmod za0 za1) < (0 : Int))) != (decide (za1 < (0 : Int))))
      ((InI ((Int.tdiv za0 za1) - (1 : Int))) ∧
      ((InI ((Int.tmod za0 za1) + za1)) ∧
      (R (Value.tuple #[(Value.int .i64 ((Int.tdiv za0 za1) - (1 : Int))), (Value.int .i64 ((Int.tmod za0 za1) + za1))]) h)))
      (J1 (0 : Int) (0 : Int) h))
    (J1 (0 : Int) (0 : Int) h)))))))) :
  HC P F_prim_down #[.int .i64 za0, .int .i64 za1] h R :=
  HC.of_eq (args := [.int .i64 za0, .int .i64 za1]) (fn := Tryd.f95) (by kernel_rfl) (by kernel_rfl) (by kernel_rfl) (by kernel_rfl) (qs := [29, 32, 35, 105, 119, 30100004]) (by kernel_rfl) H

/-- math/bits.Mul64 -/
theorem S_math_bits_Mul64 {za0 : Int} {za1 : Int} {h : Heap} {R : Value → Heap → Prop} (H :
  (((0 : Int) ≤ (32 : Int)) ∧
  (((32 : Int) < (64 : Int)) ∧
  (((0 : Int) ≤ (32 : Int)) ∧
  (((32 : Int) < (64 : Int)) ∧
  (((0 : Int) ≤ (32 : Int)) ∧
  (((32 : Int) < (64 : Int)) ∧
  (((0 : Int) ≤ (32 : Int)) ∧
  (((32 : Int) < (64 : Int)) ∧
  (((0 : Int) ≤ (32 : Int)) ∧
  (((32 : Int) < (64 : Int)) ∧
  (R (Value.tuple #[(Value.int .u64 (IntKind.wrap (Go.IntKind.u64) ((IntKind.wrap (Go.IntKind.u64) ((IntKind.wrap (Go.IntKind.u64) ((za0 / (4294967296 : Int)) * (za1 / (4294967296 : Int)))) + ((IntKind.wrap (Go.IntKind.u64) ((IntKind.wrap (Go.IntKind.u64) ((za0 / (4294967296 : Int)) * (andI (Go.IntKind.u64) za1 (4294967295 : Int)))) + ((IntKind.wrap (Go.IntKind.u64) ((andI (Go.IntKind.u64) za0 (4294967295 : Int)) * (andI (Go.IntKind.u64) za1 (4294967295 : Int)))) / (4294967296 : Int)))) / (4294967296 : Int)))) + ((IntKind.wrap (Go.IntKind.u64) ((andI (Go.IntKind.u64) (IntKind.wrap (Go.IntKind.u64) ((IntKind.wrap (Go.IntKind.u64) ((za0 / (4294967296 : Int)) * (andI (Go.IntKind.u64) za1 (4294967295 : Int)))) + ((IntKind.wrap (Go.IntKind.u64) ((andI (Go.IntKind.u64) za0 (4294967295 : Int)) * (andI (Go.IntKind.u64) za1 (4294967295 : Int)))) / (4294967296 : Int)))) (4294967295 : Int)) + (IntKind.wrap (Go.IntKind.u64) ((andI (Go.IntKind.u64) za0 (4294967295 : Int)) * (za1 / (4294967296 : Int)))))) / (4294967296 : Int))))), (Value.int .u64 (IntKind.wrap (Go.IntKind.u64) (za0 * za1)))]) h)))))))))))) :
  HC P F_math_bits_Mul64 #[.int .u64 za0, .int .u64 za1] h R :=
  HC.of_eq (args := [.int .u64 za0, .int .u64 za1]) (fn := Tryd.f166) (by kernel_rfl) (by kernel_rfl) (by kernel_rfl) (by kernel_rfl) (qs := [29, 32, 35, 105, 119]) (by kernel_rfl) H

/-- webster/websterlaw16.PrimPlaces -/
theorem S_websterlaw16_PrimPlaces {za0 : Int} {za1 : Int} {za2 : Int} {h : Heap} {R : Value → Heap → Prop} (H :
  (∀ h1 : Heap, ((h1 = (Array.push h (Obj.cells #[(Value.int .i64 (2 : Int)), (Value.int .i64 (2 : Int)), (Value.int .i64 (2075 : Int))] T_int (0, 0)))) →
  (∀ h2 : Heap, ((h2 = (Array.push h1 (Obj.cells #[(Value.int .i64 (2 : Int)), (Value.int .i64 (1 : Int)), (Value.slice none 0 0), (Value.slice none 0 0), (Value.int .i64 (2 : Int)), (Value.int .i64 (1 : Int)), (Value.slice none 0 0), (Value.slice none 0 0), (Value.int .i64 (2 : Int)), (Value.int .i64 (1 : Int)), (Value.slice none 0 0), (Value.slice none 0 0), (Value.int .i64 (2 : Int)), (Value.int .i64 (1 : Int)), (Value.slice none 0 0), (Value.slice none 0 0), (Value.int .i64 (2 : Int)), (Value.int .i64 (1 : Int)), (Value.slice (some (Addr.mk (Array.size h) 0 none)) 3 3), (Value.slice none 0 0)] T_api_Obj (0, 0)))) →
  (HC P F_flat_New #[] h2
    (fun v1 h1_1 => (∃ a1 : (Option Addr), ((v1 = (Value.pointer a1)) ∧
    (cond (Option.isNone a1)
      (cond (Option.isSome a1)
        (HC P F_websterlaw16_known #[] h1_1
          (fun v2 h2_1 => (∃ b1 : Bool, ((v2 = (Value.bool b1)) ∧
          (R (Value.bool b1) h2_1)))))
        (R (Value.bool false) h1_1))
      (HC P F_flat_Load #[(Value.iface T__flat_Memory (Value.pointer a1)), (Value.slice (some (Addr.mk (Array.size h1) 0 none)) 5 5)] h1_1
        (fun v2 h2_1 => (∃ z1 : Int, ((v2 = (Value.int .i64 z1)) ∧
        (cond (z1 != (0 : Int))
          (cond (Option.isSome a1)
            (HC P F_websterlaw16_known #[] h2_1
              (fun v3 h3 => (∃ b1 : Bool, ((v3 = (Value.bool b1)) ∧
              (R (Value.bool b1) h3)))))
            (R (Value.bool false) h2_1))
          (HC P F_websterref05_Ref #[(Value.int .i64 za2)] h2_1
            (fun v3 h3 => (∃ b1 : Bool, ((v3 = (Value.bool b1)) ∧
            (cond (!b1)
              (cond (Option.isSome a1)
                (HC P F_websterlaw16_known #[] h3
                  (fun v4 h4 => (∃ b2 : Bool, ((v4 = (Value.bool b2)) ∧
                  (R (Value.bool b2) h4)))))
                (R (Value.bool false) h3))
              ((InI za0) ∧
              ((InI ((2 : Int) * za0)) ∧
              ((InI (((2 : Int) * za0) + (1 : Int))) ∧
              (∀ h3_1 : Heap, ((h3_1 = (Array.push h3 (Obj.cells #[(Value.int .i64 (((2 : Int) * za0) + (1 : Int)))] T_int (0, 0)))) →
              (HC P F_prim_Do #[(Value.iface T__flat_Memory (Value.pointer a1)), (Value.int .i64 (71 : Int)), (Value.int .i64 (10 : Int)), (Value.slice (some (Addr.mk (Array.size h3) 0 none)) 1 1)] h3_1
                (fun v4 h4 => (∃ z2 : Int, (∃ b2 : Bool, (∃ z3 : Int, ((v4 = (Value.tuple #[(Value.int .i64 z2), (Value.bool b2), (Value.int .i64 z3)])) ∧
                (HC P F_prim_Do #[(Value.iface T__flat_Memory (Value.pointer a1)), (Value.int .i64 (62 : Int)), (Value.int .i64 z2), (Value.slice none 0 0)] h4
                  (fun v5 h5 => (∃ z4 : Int, (∃ b3 : Bool, (∃ z5 : Int, ((v5 = (Value.tuple #[(Value.int .i64 z4), (Value.bool b3), (Value.int .i64 z5)])) ∧
                  (cond (!b2)
                    (R (Value.bool false) h5)
                    (cond (z3 != (0 : Int))
                      (R (Value.bool false) h5)
                      (cond (!b3)
                        (R (Value.bool false) h5)
                        (cond (z5 != (0 : Int))
                          (R (Value.bool false) h5)
                          ((InI za0) ∧
                          ((InI ((2 : Int) * za0)) ∧
                          ((InI (((2 : Int) * za0) + (1 : Int))) ∧
                          (cond (z4 != (((2 : Int) * za0) + (1 : Int)))
                            (R (Value.bool false) h5)
                            ((InI za1) ∧
                            ((InI ((2 : Int) * za1)) ∧
                            ((InI (((2 : Int) * za1) + (1 : Int))) ∧
                            (∀ h4_1 : Heap, ((h4_1 = (Array.push h5 (Obj.cells #[(Value.int .i64 (((2 : Int) * za1) + (1 : Int))), (Value.int .i64 za2)] T_int (0, 0)))) →
                            (HC P F_prim_Do #[(Value.iface T__flat_Memory (Value.pointer a1)), (Value.int .i64 (61 : Int)), (Value.int .i64 z2), (Value.slice (some (Addr.mk (Array.size h5) 0 none)) 2 2)] h4_1
                              (fun v6 h6 => (∃ z6 : Int, (∃ b4 : Bool, (∃ z7 : Int, ((v6 = (Value.tuple #[(Value.int .i64 z6), (Value.bool b4), (Value.int .i64 z7)])) ∧
                              ((InI za1) ∧
                              ((InI ((2 : Int) * za1)) ∧
                              ((InI (((2 : Int) * za1) + (1 : Int))) ∧
                              (∀ h5_1 : Heap, ((h5_1 = (Array.push h6 (Obj.cells #[(Value.int .i64 (((2 : Int) * za1) + (1 : Int)))] T_int (0, 0)))) →
                              (HC P F_prim_Do #[(Value.iface T__flat_Memory (Value.pointer a1)), (Value.int .i64 (60 : Int)), (Value.int .i64 z2), (Value.slice (some (Addr.mk (Array.size h6) 0 none)) 1 1)] h5_1
                                (fun v7 h7 => (∃ z8 : Int, (∃ b5 : Bool, (∃ z9 : Int, ((v7 = (Value.tuple #[(Value.int .i64 z8), (Value.bool b5), (Value.int .i64 z9)])) ∧
                                (cond (decide ((1 : Int) ≤ za1))
                                  (cond (!(decide (za1 ≤ za0)))
                                    (cond (!b4)
                                      (cond (!b5)
                                        (cond (z6 == (0 : Int))
                                          (cond (z8 == (0 : Int))
                                            (HC P F_websterlaw16_known #[] h7
                                              (fun v8 h8 => (∃ b6 : Bool, ((v8 = (Value.bool b6)) ∧
                                              (R (Value.bool b6) h8)))))
                                            (R (Value.bool false) h7))
                                          (R (Value.bool false) h7))
                                        (R (Value.bool false) h7))
                                      (R (Value.bool false) h7))
                                    ((InI za1) ∧
                                    ((InI ((2 : Int) + za1)) ∧
                                    (HC P F_flat_Memory_Fetch #[(Value.pointer a1), (Value.int .i64 z2), (Value.int .i64 ((2 : Int) + za1))] h7
                                      (fun v8 h8 => (∃ z10 : Int, (∃ z11 : Int, ((v8 = (Value.tuple #[(Value.int .i64 z10), (Value.int .i64 z11)])) ∧
                                      (cond b4
                                        (cond b5
                                          (cond (z6 == za2)
                                            (cond (z8 == za2)
                                              (cond (z10 == za2)
                                                (HC P F_websterlaw16_known #[] h8
                                                  (fun v9 h9 => (∃ b6 : Bool, ((v9 = (Value.bool b6)) ∧
                                                  (R (Value.bool b6) h9)))))
                                                (R (Value.bool false) h8))
                                              (R (Value.bool false) h8))
                                            (R (Value.bool false) h8))
                                          (R (Value.bool false) h8))
                                        (R (Value.bool false) h8))))))))))
                                  (cond (!b4)
                                    (cond (!b5)
                                      (cond (z6 == (0 : Int))
                                        (cond (z8 == (0 : Int))
                                          (HC P F_websterlaw16_known #[] h7
                                            (fun v8 h8 => (∃ b6 : Bool, ((v8 = (Value.bool b6)) ∧
                                            (R (Value.bool b6) h8)))))
                                          (R (Value.bool false) h7))
                                        (R (Value.bool false) h7))
                                      (R (Value.bool false) h7))
                                    (R (Value.bool false) h7)))))))))))))))))))))))))))))))))))))))))))))))))))))))))))))))))))))) :
  HC P F_websterlaw16_PrimPlaces #[.int .u8 za0, .int .u8 za1, .int .i64 za2] h R :=
  HC.of_eq (args := [.int .u8 za0, .int .u8 za1, .int .i64 za2]) (fn := Tryd.f4) (by kernel_rfl) (by kernel_rfl) (by kernel_rfl) (by kernel_rfl) (qs := [29, 32, 35, 105, 119]) (by kernel_rfl) H

/-- webster/websterref05.Ref -/
theorem S_websterref05_Ref {za0 : Int} {h : Heap} {R : Value → Heap → Prop} (H :
  (((2 : Int) ≠ (0 : Int)) ∧
  (cond ((Int.tmod za0 (2 : Int)) != (0 : Int))
    (cond (decide ((-2147483647 : Int) ≤ za0))
      (cond (decide (za0 ≤ (2147483647 : Int)))
        (R (Value.bool true) h)
        (((2 : Int) ≠ (0 : Int)) ∧
        (cond ((Int.tmod za0 (2 : Int)) == (0 : Int))
          (cond (decide ((0 : Int) < za0))
            (R (Value.bool (decide (za0 < (2147483648 : Int)))) h)
            (R (Value.bool false) h))
          (R (Value.bool false) h))))
      (((2 : Int) ≠ (0 : Int)) ∧
      (cond ((Int.tmod za0 (2 : Int)) == (0 : Int))
        (cond (decide ((0 : Int) < za0))
          (R (Value.bool (decide (za0 < (2147483648 : Int)))) h)
          (R (Value.bool false) h))
        (R (Value.bool false) h))))
    (((2 : Int) ≠ (0 : Int)) ∧
    (cond ((Int.tmod za0 (2 : Int)) == (0 : Int))
      (cond (decide ((0 : Int) < za0))
        (R (Value.bool (decide (za0 < (2147483648 : Int)))) h)
        (R (Value.bool false) h))
      (R (Value.bool false) h)))))) :
  HC P F_websterref05_Ref #[.int .i64 za0] h R :=
  HC.of_eq (args := [.int .i64 za0]) (fn := Tryd.f18) (by kernel_rfl) (by kernel_rfl) (by kernel_rfl) (by kernel_rfl) (qs := [29, 32, 35, 105, 119]) (by kernel_rfl) H

/-- webster/prim.Known -/
theorem S_prim_Known {za0 : Int} {h : Heap} {R : Value → Heap → Prop} (H :
  (∃ vs1 : (List Value), (((cellsH h (Addr.mk 0 0 none) 58) = (some vs1)) ∧
  (∃ I1 : (Int → (Bool → (Int → (Heap → Prop)))), (∃ μ1 : (Int → (Bool → (Int → (Heap → Nat)))), ((I1 (0 : Int) false (0 : Int) h) ∧
  (∀ z1 : Int, (∀ b1 : Bool, (∀ z2 : Int, (∀ h1 : Heap, ((I1 z1 b1 z2 h1) →
  (cond (decide (z1 < (29 : Int)))
    (((0 : Int) ≤ z1) ∧
    ((z1 < (29 : Int)) ∧
    (∃ z3 : Int, (∃ z4 : Int, (((List.take 2 (List.drop ((Int.toNat z1) * 2) (Array.toList (List.toArray vs1)))) = [(Value.int .i64 z3), (Value.int .i64 z4)]) ∧
    (∀ h2 : Heap, ((h2 = (Array.push h1 (Obj.cells #[(Value.int .i64 (0 : Int)), (Value.int .i64 (0 : Int))] T__2_int (0, 0)))) →
    ((StOK h2 (Addr.mk (Array.size h1) 0 none) 2) ∧
    (∀ h3 : Heap, ((h3 = (putsH h2 (Addr.mk (Array.size h1) 0 none) [(Value.int .i64 z3), (Value.int .i64 z4)] 0)) →
    (((0 : Int) ≤ (0 : Int)) ∧
    (((0 : Int) < (2 : Int)) ∧
    (∃ z5 : Int, (((cellH h3 (Addr.add (Addr.mk (Array.size h1) 0 none) 0)) = (some (Value.int .i64 z5))) ∧
    (cond (z5 != za0)
      ((InI (z1 + (1 : Int))) ∧
      ((I1 (z1 + (1 : Int)) b1 z2 h3) ∧
      ((μ1 (z1 + (1 : Int)) b1 z2 h3) < (μ1 z1 b1 z2 h1))))
      (((0 : Int) ≤ (1 : Int)) ∧
      (((1 : Int) < (2 : Int)) ∧
      (∃ z6 : Int, (((cellH h3 (Addr.add (Addr.mk (Array.size h1) 0 none) 1)) = (some (Value.int .i64 z6))) ∧
      (R (Value.tuple #[(Value.int .i64 z6), (Value.bool true)]) h3))))))))))))))))))))
    (R (Value.tuple #[(Value.int .i64 (0 : Int)), (Value.bool false)]) h1))))))))))))) :
  HC P F_prim_Known #[.int .i64 za0] h R :=
  HC.of_eq (args := [.int .i64 za0]) (fn := Tryd.f23) (by kernel_rfl) (by kernel_rfl) (by kernel_rfl) (by kernel_rfl) (qs := [29, 32, 35, 105, 119]) (by kernel_rfl) H

/-- webster/websterref05.Same -/
theorem S_websterref05_Same {za0_0 : Int} {za0_1 : Int} {sa0_2 : Sl} {sa0_3 : Sl} {za1_0 : Int} {za1_1 : Int} {sa1_2 : Sl} {sa1_3 : Sl} {h : Heap} {R : Value → Heap → Prop} (H :
  (∀ h1 : Heap, ((h1 = (Array.push h (Obj.cells #[(Value.int .i64 za0_0), (Value.int .i64 za0_1), (Value.slice sa0_2.a sa0_2.n sa0_2.c), (Value.slice sa0_3.a sa0_3.n sa0_3.c)] T_api_Obj (0, 0)))) →
  (∀ h2 : Heap, ((h2 = (Array.push h1 (Obj.cells #[(Value.int .i64 za1_0), (Value.int .i64 za1_1), (Value.slice sa1_2.a sa1_2.n sa1_2.c), (Value.slice sa1_3.a sa1_3.n sa1_3.c)] T_api_Obj (0, 0)))) →
  (∃ z1 : Int, (((cellH h2 (Addr.add (Addr.mk (Array.size h) 0 none) 0)) = (some (Value.int .i64 z1))) ∧
  (∃ z2 : Int, (((cellH h2 (Addr.add (Addr.mk (Array.size h1) 0 none) 0)) = (some (Value.int .i64 z2))) ∧
  (cond (z1 == z2)
    (∃ z3 : Int, (((cellH h2 (Addr.add (Addr.mk (Array.size h) 0 none) 1)) = (some (Value.int .i64 z3))) ∧
    (∃ z4 : Int, (((cellH h2 (Addr.add (Addr.mk (Array.size h1) 0 none) 1)) = (some (Value.int .i64 z4))) ∧
    (cond (z3 == z4)
      (∃ s1 : Sl, (((cellH h2 (Addr.add (Addr.mk (Array.size h) 0 none) 2)) = (some (Value.slice s1.a s1.n s1.c))) ∧
      (∃ s2 : Sl, (((cellH h2 (Addr.add (Addr.mk (Array.size h1) 0 none) 2)) = (some (Value.slice s2.a s2.n s2.c))) ∧
      (HC P F_websterref00_SameInts #[(Value.slice s1.a s1.n s1.c), (Value.slice s2.a s2.n s2.c)] h2
        (fun v1 h1_1 => (∃ b1 : Bool, ((v1 = (Value.bool b1)) ∧
        (cond b1
          (∃ s3 : Sl, (((cellH h1_1 (Addr.add (Addr.mk (Array.size h) 0 none) 3)) = (some (Value.slice s3.a s3.n s3.c))) ∧
          (∃ s4 : Sl, (((cellH h1_1 (Addr.add (Addr.mk (Array.size h1) 0 none) 3)) = (some (Value.slice s4.a s4.n s4.c))) ∧
          (HC P F_websterref00_Same #[(Value.slice s3.a s3.n s3.c), (Value.slice s4.a s4.n s4.c)] h1_1
            (fun v2 h2_1 => (∃ b2 : Bool, ((v2 = (Value.bool b2)) ∧
            (R (Value.bool b2) h2_1)))))))))
          (R (Value.bool false) h1_1))))))))))
      (R (Value.bool false) h2))))))
    (R (Value.bool false) h2))))))))))) :
  HC P F_websterref05_Same #[.agg #[.int .i64 za0_0, .int .i64 za0_1, .slice sa0_2.a sa0_2.n sa0_2.c, .slice sa0_3.a sa0_3.n sa0_3.c], .agg #[.int .i64 za1_0, .int .i64 za1_1, .slice sa1_2.a sa1_2.n sa1_2.c, .slice sa1_3.a sa1_3.n sa1_3.c]] h R :=
  HC.of_eq (args := [.agg #[.int .i64 za0_0, .int .i64 za0_1, .slice sa0_2.a sa0_2.n sa0_2.c, .slice sa0_3.a sa0_3.n sa0_3.c], .agg #[.int .i64 za1_0, .int .i64 za1_1, .slice sa1_2.a sa1_2.n sa1_2.c, .slice sa1_3.a sa1_3.n sa1_3.c]]) (fn := Tryd.f39) (by kernel_rfl) (by kernel_rfl) (by kernel_rfl) (by kernel_rfl) (qs := [29, 32, 35, 105, 119]) (by kernel_rfl) H

/-- webster/prim.Arith -/
theorem S_prim_Arith {za0 : Int} {za1 : Int} {za2 : Int} {h : Heap} {R : Value → Heap → Prop} (H :
  (HC P F_word_Number #[(Value.int .i64 za1)] h
    (fun v1 h1 => (∃ z1 : Int, (∃ b1 : Bool, ((v1 = (Value.tuple #[(Value.int .i64 z1), (Value.bool b1)])) ∧
    (HC P F_word_Number #[(Value.int .i64 za2)] h1
      (fun v2 h2 => (∃ z2 : Int, (∃ b2 : Bool, ((v2 = (Value.tuple #[(Value.int .i64 z2), (Value.bool b2)])) ∧
      (cond (!b1)
        (R (Value.tuple #[(Value.int .i64 (0 : Int)), (Value.bool false)]) h2)
        (cond (!b2)
          (R (Value.tuple #[(Value.int .i64 (0 : Int)), (Value.bool false)]) h2)
          (HC P F_prim_compared #[(Value.int .i64 za0), (Value.int .i64 z1), (Value.int .i64 z2)] h2
            (fun v3 h3 => (∃ z3 : Int, (∃ b3 : Bool, ((v3 = (Value.tuple #[(Value.int .i64 z3), (Value.bool b3)])) ∧
            (cond b3
              (R (Value.tuple #[(Value.int .i64 z3), (Value.bool true)]) h3)
              (HC P F_prim_number #[(Value.int .i64 za0), (Value.int .i64 z1), (Value.int .i64 z2)] h3
                (fun v4 h4 => (∃ z4 : Int, (∃ b4 : Bool, ((v4 = (Value.tuple #[(Value.int .i64 z4), (Value.bool b4)])) ∧
                (HC P F_word_Small #[(Value.int .i64 z4)] h4
                  (fun v5 h5 => (∃ z5 : Int, (∃ z6 : Int, ((v5 = (Value.tuple #[(Value.int .i64 z5), (Value.int .i64 z6)])) ∧
                  (cond (!b4)
                    (R (Value.tuple #[(Value.int .i64 (0 : Int)), (Value.bool false)]) h5)
                    (cond (z6 != (0 : Int))
                      (R (Value.tuple #[(Value.int .i64 (0 : Int)), (Value.bool false)]) h5)
                      (R (Value.tuple #[(Value.int .i64 z5), (Value.bool true)]) h5)))))))))))))))))))))))))))))))) :
  HC P F_prim_Arith #[.int .i64 za0, .int .i64 za1, .int .i64 za2] h R :=
  HC.of_eq (args := [.int .i64 za0, .int .i64 za1, .int .i64 za2]) (fn := Tryd.f44) (by kernel_rfl) (by kernel_rfl) (by kernel_rfl) (by kernel_rfl) (qs := [29, 32, 35, 105, 119]) (by kernel_rfl) H

/-- webster/word.Small -/
theorem S_word_Small {za0 : Int} {h : Heap} {R : Value → Heap → Prop} (H :
  (cond (decide (za0 < (-1073741824 : Int)))
    (R (Value.tuple #[(Value.int .i64 (0 : Int)), (Value.int .i64 (2 : Int))]) h)
    (cond (decide ((1073741823 : Int) < za0))
      (R (Value.tuple #[(Value.int .i64 (0 : Int)), (Value.int .i64 (2 : Int))]) h)
      ((InI ((2 : Int) * za0)) ∧
      ((InI (((2 : Int) * za0) + (1 : Int))) ∧
      (R (Value.tuple #[(Value.int .i64 (((2 : Int) * za0) + (1 : Int))), (Value.int .i64 (0 : Int))]) h)))))) :
  HC P F_word_Small #[.int .i64 za0] h R :=
  HC.of_eq (args := [.int .i64 za0]) (fn := Tryd.f69) (by kernel_rfl) (by kernel_rfl) (by kernel_rfl) (by kernel_rfl) (qs := [29, 32, 35, 105, 119]) (by kernel_rfl) H

/-- webster/large.Sub -/
theorem S_large_Sub {sa0 : Sl} {sa1 : Sl} {h : Heap} {R : Value → Heap → Prop} (H :
  (HC P F_large_Right #[(Value.slice sa0.a sa0.n sa0.c)] h
    (fun v1 h1 => (∃ b1 : Bool, ((v1 = (Value.bool b1)) ∧
    (cond (!b1)
      (R (Value.tuple #[(Value.slice none 0 0), (Value.int .i64 (2 : Int))]) h1)
      (HC P F_large_Right #[(Value.slice sa1.a sa1.n sa1.c)] h1
        (fun v2 h2 => (∃ b2 : Bool, ((v2 = (Value.bool b2)) ∧
        (cond (!b2)
          (R (Value.tuple #[(Value.slice none 0 0), (Value.int .i64 (2 : Int))]) h2)
          (HC P F_large_Cmp #[(Value.slice sa0.a sa0.n sa0.c), (Value.slice sa1.a sa1.n sa1.c)] h2
            (fun v3 h3 => (∃ z1 : Int, ((v3 = (Value.int .i64 z1)) ∧
            (cond (decide (z1 < (0 : Int)))
              (R (Value.tuple #[(Value.slice none 0 0), (Value.int .i64 (4 : Int))]) h3)
              (HC P F_large_minus #[(Value.slice sa0.a sa0.n sa0.c), (Value.slice sa1.a sa1.n sa1.c)] h3
                (fun v4 h4 => (∃ s1 : Sl, ((v4 = (Value.slice s1.a s1.n s1.c)) ∧
                (R (Value.tuple #[(Value.slice s1.a s1.n s1.c), (Value.int .i64 (0 : Int))]) h4))))))))))))))))))))) :
  HC P F_large_Sub #[.slice sa0.a sa0.n sa0.c, .slice sa1.a sa1.n sa1.c] h R :=
  HC.of_eq (args := [.slice sa0.a sa0.n sa0.c, .slice sa1.a sa1.n sa1.c]) (fn := Tryd.f73) (by kernel_rfl) (by kernel_rfl) (by kernel_rfl) (by kernel_rfl) (qs := [29, 32, 35, 105, 119]) (by kernel_rfl) H

/-- webster/prim.behind -/
theorem S_prim_behind {va0 : Value} {za1 : Int} {h : Heap} {R : Value → Heap → Prop} (H :
  (HI P va0 "Obj" #[(Value.int .i64 za1)] h
    (fun v1 h1 => (∃ z1 : Int, (∃ z2 : Int, (∃ s1 : Sl, (∃ s2 : Sl, (∃ z3 : Int, ((v1 = (Value.tuple #[(Value.agg #[(Value.int .i64 z1), (Value.int .i64 z2), (Value.slice s1.a s1.n s1.c), (Value.slice s2.a s2.n s2.c)]), (Value.int .i64 z3)])) ∧
    (∀ h1_1 : Heap, ((h1_1 = (Array.push h1 (Obj.cells #[(Value.int .i64 (0 : Int)), (Value.int .i64 (0 : Int)), (Value.slice none 0 0), (Value.slice none 0 0)] T_api_Obj (0, 0)))) →
    ((StOK h1_1 (Addr.mk (Array.size h1) 0 none) 4) ∧
    (∀ h2 : Heap, ((h2 = (putsH h1_1 (Addr.mk (Array.size h1) 0 none) [(Value.int .i64 z1), (Value.int .i64 z2), (Value.slice s1.a s1.n s1.c), (Value.slice s2.a s2.n s2.c)] 0)) →
    (cond (z3 != (0 : Int))
      (R (Value.tuple #[(Value.int .i64 (0 : Int)), (Value.int .i64 (0 : Int)), (Value.int .i64 (0 : Int)), (Value.int .i64 z3)]) h2)
      (∃ z4 : Int, (((cellH h2 (Addr.add (Addr.mk (Array.size h1) 0 none) 0)) = (some (Value.int .i64 z4))) ∧
      (HC P F_kit_Shape #[va0, (Value.int .i64 z4)] h2
        (fun v2 h2_1 => (∃ z5 : Int, (∃ z6 : Int, (∃ b1 : Bool, (∃ z7 : Int, ((v2 = (Value.tuple #[(Value.int .i64 z5), (Value.int .i64 z6), (Value.bool b1), (Value.int .i64 z7)])) ∧
        (∀ J1 : (Int → (Heap → Prop)), ((∀ z8 : Int, (∀ h3 : Heap, ((∃ z9 : Int, (((cellH h3 (Addr.add (Addr.mk (Array.size h1) 0 none) 0)) = (some (Value.int .i64 z9))) ∧
            (∃ z10 : Int, (((cellH h3 (Addr.add (Addr.mk (Array.size h1) 0 none) 1)) = (some (Value.int .i64 z10))) ∧
            (∃ s3 : Sl, (((cellH h3 (Addr.add (Addr.mk (Array.size h1) 0 none) 2)) = (some (Value.slice s3.a s3.n s3.c))) ∧
            (∃ s4 : Sl, (((cellH h3 (Addr.add (Addr.mk (Array.size h1) 0 none) 3)) = (some (Value.slice s4.a s4.n s4.c))) ∧
            (∃ z11 : Int, (((cellH h3 (Addr.add (Addr.mk (Array.size h1) 0 none) 1)) = (some (Value.int .i64 z11))) ∧
            (HC P F_wide_Size #[(Value.agg #[(Value.int .i64 z9), (Value.int .i64 z10), (Value.slice s3.a s3.n s3.c), (Value.slice s4.a s4.n s4.c)])] h3
              (fun v3 h3_1 => (∃ z12 : Int, ((v3 = (Value.int .i64 z12)) ∧
              ((∃ z13 : Int, (((cellH h3_1 (Addr.add (Addr.mk (Array.size h1) 0 none) 1)) = (some (Value.int .i64 z13))) ∧
               ((Value.int .i64 z13) = (Value.int .i64 z11)))) ∧
              ((InI (z12 - z6)) ∧
              (R (Value.tuple #[(Value.int .i64 z6), (Value.int .i64 (z12 - z6)), (Value.int .i64 z11), (Value.int .i64 z8)]) h3_1))))))))))))))))) →
          (J1 z8 h3)))) →
        (cond (z7 == (0 : Int))
          (∃ z8 : Int, (((cellH h2_1 (Addr.add (Addr.mk (Array.size h1) 0 none) 0)) = (some (Value.int .i64 z8))) ∧
          (∃ z9 : Int, (((cellH h2_1 (Addr.add (Addr.mk (Array.size h1) 0 none) 1)) = (some (Value.int .i64 z9))) ∧
          (∃ s3 : Sl, (((cellH h2_1 (Addr.add (Addr.mk (Array.size h1) 0 none) 2)) = (some (Value.slice s3.a s3.n s3.c))) ∧
          (∃ s4 : Sl, (((cellH h2_1 (Addr.add (Addr.mk (Array.size h1) 0 none) 3)) = (some (Value.slice s4.a s4.n s4.c))) ∧
          (HC P F_wide_Size #[(Value.agg #[(Value.int .i64 z8), (Value.int .i64 z9), (Value.slice s3.a s3.n s3.c), (Value.slice s4.a s4.n s4.c)])] h2_1
            (fun v3 h3 => (∃ z10 : Int, ((v3 = (Value.int .i64 z10)) ∧
            (cond (decide (z10 < z6))
              (J1 (2 : Int) h3)
              (J1 z7 h3))))))))))))))
          (J1 z7 h2_1)))))))))))))))))))))))))))) :
  HC P F_prim_behind #[va0, .int .i64 za1] h R :=
  HC.of_eq (args := [va0, .int .i64 za1]) (fn := Tryd.f80) (by kernel_rfl) (by kernel_rfl) (by kernel_rfl) (by kernel_rfl) (qs := [29, 32, 35, 105, 119, 30100010]) (by kernel_rfl) H

/-- webster/prim.small -/
theorem S_prim_small {za0 : Int} {za1 : Int} {h : Heap} {R : Value → Heap → Prop} (H :
  (cond (za1 != (0 : Int))
    (R (Value.tuple #[(Value.int .i64 (0 : Int)), (Value.int .i64 za1)]) h)
    (HC P F_word_Small #[(Value.int .i64 za0)] h
      (fun v1 h1 => (∃ z1 : Int, (∃ z2 : Int, ((v1 = (Value.tuple #[(Value.int .i64 z1), (Value.int .i64 z2)])) ∧
      (R (Value.tuple #[(Value.int .i64 z1), (Value.int .i64 z2)]) h1)))))))) :
  HC P F_prim_small #[.int .i64 za0, .int .i64 za1] h R :=
  HC.of_eq (args := [.int .i64 za0, .int .i64 za1]) (fn := Tryd.f81) (by kernel_rfl) (by kernel_rfl) (by kernel_rfl) (by kernel_rfl) (qs := [29, 32, 35, 105, 119]) (by kernel_rfl) H

/-- webster/large.Right -/
theorem S_large_Right {sa0 : Sl} {h : Heap} {R : Value → Heap → Prop} (H :
  (cond (decide ((sa0.n : Int) ≤ (400 : Int)))
    (cond ((sa0.n : Int) == (0 : Int))
      (R (Value.bool true) h)
      ((InI ((sa0.n : Int) - (1 : Int))) ∧
      (optE sa0.a False (fun p1 => (((0 : Int) ≤ ((sa0.n : Int) - (1 : Int))) ∧
      ((((sa0.n : Int) - (1 : Int)) < (sa0.n : Int)) ∧
      (∃ z1 : Int, (((cellH h (Addr.add p1 ((Int.toNat ((sa0.n : Int) - (1 : Int))) * 1))) = (some (Value.int .u8 z1))) ∧
      (R (Value.bool (z1 != (0 : Int))) h)))))))))
    (R (Value.bool false) h))) :
  HC P F_large_Right #[.slice sa0.a sa0.n sa0.c] h R :=
  HC.of_eq (args := [.slice sa0.a sa0.n sa0.c]) (fn := Tryd.f97) (by kernel_rfl) (by kernel_rfl) (by kernel_rfl) (by kernel_rfl) (qs := [29, 32, 35, 105, 119]) (by kernel_rfl) H

/-- slices.ContainsFunc[[][]byte,[]byte] -/
theorem S_slices_ContainsFunc_byte_byte {sa0 : Sl} {va1 : Value} {h : Heap} {R : Value → Heap → Prop} (H :
  (HC P F_slices_IndexFunc_byte_byte #[(Value.slice sa0.a sa0.n sa0.c), va1] h
    (fun v1 h1 => (∃ z1 : Int, ((v1 = (Value.int .i64 z1)) ∧
    (R (Value.bool (decide ((0 : Int) ≤ z1))) h1)))))) :
  HC P F_slices_ContainsFunc_byte_byte #[.slice sa0.a sa0.n sa0.c, va1] h R :=
  HC.of_eq (args := [.slice sa0.a sa0.n sa0.c, va1]) (fn := Tryd.f98) (by kernel_rfl) (by kernel_rfl) (by kernel_rfl) (by kernel_rfl) (qs := [29, 32, 35, 105, 119]) (by kernel_rfl) H

/-- webster/large.Add$1 -/
theorem S_large_Add_1 {sa0 : Sl} {h : Heap} {R : Value → Heap → Prop} (H :
  (HC P F_large_Right #[(Value.slice sa0.a sa0.n sa0.c)] h
    (fun v1 h1 => (∃ b1 : Bool, ((v1 = (Value.bool b1)) ∧
    (R (Value.bool (!b1)) h1)))))) :
  HC P F_large_Add_1 #[.slice sa0.a sa0.n sa0.c] h R :=
  HC.of_eq (args := [.slice sa0.a sa0.n sa0.c]) (fn := Tryd.f99) (by kernel_rfl) (by kernel_rfl) (by kernel_rfl) (by kernel_rfl) (qs := [29, 32, 35, 105, 119]) (by kernel_rfl) H

/-- webster/large.plus -/
theorem S_large_plus {sa0 : Sl} {sa1 : Sl} {h : Heap} {R : Value → Heap → Prop} (H :
  ((InI ((maxI (sa0.n : Int) (sa1.n : Int)) + (1 : Int))) ∧
  (((0 : Int) ≤ ((maxI (sa0.n : Int) (sa1.n : Int)) + (1 : Int))) ∧
  ((((maxI (sa0.n : Int) (sa1.n : Int)) + (1 : Int)) ≤ ((maxI (sa0.n : Int) (sa1.n : Int)) + (1 : Int))) ∧
  ((((maxI (sa0.n : Int) (sa1.n : Int)) + (1 : Int)) ≤ (1099511627776 : Int)) ∧
  ((1 ≤ 256) ∧
  ((1 = 1) ∧
  ((0 < 1) ∧
  (∀ h1 : Heap, ((h1 = (Array.push h (Obj.cells (List.toArray (List.flatten (List.replicate (Int.toNat ((maxI (sa0.n : Int) (sa1.n : Int)) + (1 : Int))) [(Value.int .u8 (0 : Int))]))) T_uint8 (0, 0)))) →
  (∃ I1 : (Int → (Int → (Heap → Prop))), (∃ μ1 : (Int → (Int → (Heap → Nat))), ((I1 (0 : Int) (0 : Int) h1) ∧
  (∀ z1 : Int, (∀ z2 : Int, (∀ h2 : Heap, ((I1 z1 z2 h2) →
  (cond (decide (z1 < ((maxI (sa0.n : Int) (sa1.n : Int)) + (1 : Int))))
    (HC P F_large_digit #[(Value.slice sa0.a sa0.n sa0.c), (Value.int .i64 z1)] h2
      (fun v1 h1_1 => (∃ z3 : Int, ((v1 = (Value.int .i64 z3)) ∧
      (HC P F_large_digit #[(Value.slice sa1.a sa1.n sa1.c), (Value.int .i64 z1)] h1_1
        (fun v2 h2_1 => (∃ z4 : Int, ((v2 = (Value.int .i64 z4)) ∧
        ((InI (z3 + z4)) ∧
        ((InI (z2 + (z3 + z4))) ∧
        (((0 : Int) ≤ z1) ∧
        ((z1 < (((Int.toNat ((maxI (sa0.n : Int) (sa1.n : Int)) + (1 : Int))) : Nat) : Int)) ∧
        ((StOK h2_1 (Addr.add (Addr.mk (Array.size h) 0 none) ((Int.toNat z1) * 1)) 1) ∧
        (∀ h3 : Heap, ((h3 = (putH h2_1 (Addr.add (Addr.mk (Array.size h) 0 none) ((Int.toNat z1) * 1)) (Value.int .u8 (IntKind.wrap (Go.IntKind.u8) (z2 + (z3 + z4)))))) →
        (((0 : Int) ≤ (8 : Int)) ∧
        (((8 : Int) < (64 : Int)) ∧
        ((InI (z1 + (1 : Int))) ∧
        ((I1 (z1 + (1 : Int)) ((z2 + (z3 + z4)) / (256 : Int)) h3) ∧
        ((μ1 (z1 + (1 : Int)) ((z2 + (z3 + z4)) / (256 : Int)) h3) < (μ1 z1 z2 h2)))))))))))))))))))))
    (HC P F_large_cut #[(Value.slice (some (Addr.mk (Array.size h) 0 none)) (Int.toNat ((maxI (sa0.n : Int) (sa1.n : Int)) + (1 : Int))) (Int.toNat ((maxI (sa0.n : Int) (sa1.n : Int)) + (1 : Int))))] h2
      (fun v1 h1_1 => (∃ s1 : Sl, ((v1 = (Value.slice s1.a s1.n s1.c)) ∧
      (R (Value.slice s1.a s1.n s1.c) h1_1))))))))))))))))))))))) :
  HC P F_large_plus #[.slice sa0.a sa0.n sa0.c, .slice sa1.a sa1.n sa1.c] h R :=
  HC.of_eq (args := [.slice sa0.a sa0.n sa0.c, .slice sa1.a sa1.n sa1.c]) (fn := Tryd.f101) (by kernel_rfl) (by kernel_rfl) (by kernel_rfl) (by kernel_rfl) (qs := [29, 32, 35, 105, 119]) (by kernel_rfl) H

/-- slices.IndexFunc[[][]byte,[]byte] -/
theorem S_slices_IndexFunc_byte_byte {sa0 : Sl} {va1 : Value} {h : Heap} {R : Value → Heap → Prop} (H :
  (∃ I1 : (Int → (Int → (Heap → Prop))), (∃ μ1 : (Int → (Int → (Heap → Nat))), ((I1 (0 : Int) (0 : Int) h) ∧
  (∀ z1 : Int, (∀ z2 : Int, (∀ h1 : Heap, ((I1 z1 z2 h1) →
  (cond (decide (z1 < (sa0.n : Int)))
    (optE sa0.a False (fun p1 => (((0 : Int) ≤ z1) ∧
    ((z1 < (sa0.n : Int)) ∧
    (∃ s1 : Sl, (((cellH h1 (Addr.add p1 ((Int.toNat z1) * 1))) = (some (Value.slice s1.a s1.n s1.c))) ∧
    (HV P va1 #[(Value.slice s1.a s1.n s1.c)] h1
      (fun v1 h1_1 => (∃ b1 : Bool, ((v1 = (Value.bool b1)) ∧
      (cond b1
        (R (Value.int .i64 z1) h1_1)
        ((InI (z1 + (1 : Int))) ∧
        ((I1 (z1 + (1 : Int)) z2 h1_1) ∧
        ((μ1 (z1 + (1 : Int)) z2 h1_1) < (μ1 z1 z2 h1)))))))))))))))
    (R (Value.int .i64 (-1 : Int)) h1)))))))))) :
  HC P F_slices_IndexFunc_byte_byte #[.slice sa0.a sa0.n sa0.c, va1] h R :=
  HC.of_eq (args := [.slice sa0.a sa0.n sa0.c, va1]) (fn := Tryd.f124) (by kernel_rfl) (by kernel_rfl) (by kernel_rfl) (by kernel_rfl) (qs := [29, 32, 35, 105, 119]) (by kernel_rfl) H

/-- (*webster/flat.Memory).SetByte -/
theorem S_flat_Memory_SetByte {aa0 : Option Addr} {za1 : Int} {za2 : Int} {za3 : Int} {h : Heap} {R : Value → Heap → Prop} (H :
  (HC P F_flat_Memory_place #[(Value.pointer aa0), (Value.int .i64 za1), (Value.int .i64 (2 : Int)), (Value.int .i64 za2)] h
    (fun v1 h1 => (∃ a1 : (Option Addr), (∃ z1 : Int, ((v1 = (Value.tuple #[(Value.pointer a1), (Value.int .i64 z1)])) ∧
    (∀ J1 : (Int → (Heap → Prop)), ((∀ z2 : Int, (∀ h1_1 : Heap, ((∀ J2 : (Heap → Prop), ((∀ h2 : Heap, ((R (Value.int .i64 z2) h2) →
          (J2 h2))) →
        (cond (z2 == (0 : Int))
          (optE a1 False (fun p1 => (∃ s1 : Sl, (((cellH h1_1 (Addr.add p1 3)) = (some (Value.slice s1.a s1.n s1.c))) ∧
          (optE s1.a False (fun p2 => (((0 : Int) ≤ za2) ∧
          ((za2 < (s1.n : Int)) ∧
          ((StOK h1_1 (Addr.add p2 ((Int.toNat za2) * 1)) 1) ∧
          (∀ h2 : Heap, ((h2 = (putH h1_1 (Addr.add p2 ((Int.toNat za2) * 1)) (Value.int .u8 (IntKind.wrap (Go.IntKind.u8) za3)))) →
          (J2 h2))))))))))))
          (J2 h1_1)))) →
      (J1 z2 h1_1)))) →
    (cond (z1 == (0 : Int))
      (cond (decide (za3 < (0 : Int)))
        (J1 (2 : Int) h1)
        (cond (decide ((255 : Int) < za3))
          (J1 (2 : Int) h1)
          (J1 z1 h1)))
      (J1 z1 h1)))))))))) :
  HC P F_flat_Memory_SetByte #[.pointer aa0, .int .i64 za1, .int .i64 za2, .int .i64 za3] h R :=
  HC.of_eq (args := [.pointer aa0, .int .i64 za1, .int .i64 za2, .int .i64 za3]) (fn := Tryd.f158) (by kernel_rfl) (by kernel_rfl) (by kernel_rfl) (by kernel_rfl) (qs := [29, 32, 35, 105, 119, 30100004, 30100008]) (by kernel_rfl) H

/-- (*webster/flat.Memory).Made -/
theorem S_flat_Memory_Made {aa0 : Option Addr} {h : Heap} {R : Value → Heap → Prop} (H :
  (cond (Option.isNone aa0)
    (R (Value.int .i64 (0 : Int)) h)
    (optE aa0 False (fun p1 => (∃ z1 : Int, (((cellH h (Addr.add p1 1)) = (some (Value.int .i64 z1))) ∧
    (R (Value.int .i64 z1) h))))))) :
  HC P F_flat_Memory_Made #[.pointer aa0] h R :=
  HC.of_eq (args := [.pointer aa0]) (fn := Tryd.f12) (by kernel_rfl) (by kernel_rfl) (by kernel_rfl) (by kernel_rfl) (qs := [29, 32, 35, 105, 119]) (by kernel_rfl) H

/-- webster/websterlaw16.known -/
theorem S_websterlaw16_known  {h : Heap} {R : Value → Heap → Prop} (H :
  (HC P F_prim_Arith #[(Value.int .i64 (13 : Int)), (Value.int .i64 (-13 : Int)), (Value.int .i64 (5 : Int))] h
    (fun v1 h1 => (∃ z1 : Int, (∃ b1 : Bool, ((v1 = (Value.tuple #[(Value.int .i64 z1), (Value.bool b1)])) ∧
    (HC P F_prim_Arith #[(Value.int .i64 (10 : Int)), (Value.int .i64 (-13 : Int)), (Value.int .i64 (5 : Int))] h1
      (fun v2 h2 => (∃ z2 : Int, (∃ b2 : Bool, ((v2 = (Value.tuple #[(Value.int .i64 z2), (Value.bool b2)])) ∧
      (HC P F_prim_Arith #[(Value.int .i64 (0 : Int)), (Value.int .i64 (2147483647 : Int)), (Value.int .i64 (3 : Int))] h2
        (fun v3 h3 => (∃ z3 : Int, (∃ b3 : Bool, ((v3 = (Value.tuple #[(Value.int .i64 z3), (Value.bool b3)])) ∧
        (HC P F_prim_Known #[(Value.int .i64 (61 : Int))] h3
          (fun v4 h4 => (∃ z4 : Int, (∃ b4 : Bool, ((v4 = (Value.tuple #[(Value.int .i64 z4), (Value.bool b4)])) ∧
          (cond (z1 == (-7 : Int))
            (cond b1
              (cond (z2 == (3 : Int))
                (cond b2
                  (cond (!b3)
                    (cond (z4 == (2 : Int))
                      (R (Value.bool b4) h4)
                      (R (Value.bool false) h4))
                    (R (Value.bool false) h4))
                  (R (Value.bool false) h4))
                (R (Value.bool false) h4))
              (R (Value.bool false) h4))
            (R (Value.bool false) h4))))))))))))))))))))))) :
  HC P F_websterlaw16_known #[] h R :=
  HC.of_eq (args := []) (fn := Tryd.f19) (by kernel_rfl) (by kernel_rfl) (by kernel_rfl) (by kernel_rfl) (qs := [29, 32, 35, 105, 119]) (by kernel_rfl) H

/-- webster/word.Number -/
theorem S_word_Number {za0 : Int} {h : Heap} {R : Value → Heap → Prop} (H :
  (((0 : Int) ≤ (1 : Int)) ∧
  (((1 : Int) < (64 : Int)) ∧
  (cond ((andI (Go.IntKind.i64) za0 (1 : Int)) == (0 : Int))
    (R (Value.tuple #[(Value.int .i64 (0 : Int)), (Value.bool false)]) h)
    (cond (decide ((za0 / (2 : Int)) < (-1073741824 : Int)))
      (R (Value.tuple #[(Value.int .i64 (0 : Int)), (Value.bool false)]) h)
      (cond (decide ((1073741823 : Int) < (za0 / (2 : Int))))
        (R (Value.tuple #[(Value.int .i64 (0 : Int)), (Value.bool false)]) h)
        (R (Value.tuple #[(Value.int .i64 (za0 / (2 : Int))), (Value.bool true)]) h))))))) :
  HC P F_word_Number #[.int .i64 za0] h R :=
  HC.of_eq (args := [.int .i64 za0]) (fn := Tryd.f35) (by kernel_rfl) (by kernel_rfl) (by kernel_rfl) (by kernel_rfl) (qs := [29, 32, 35, 105, 119]) (by kernel_rfl) H

/-- slices.Contains[[]int,int] -/
theorem S_slices_Contains_int_int {sa0 : Sl} {za1 : Int} {h : Heap} {R : Value → Heap → Prop} (H :
  (HC P F_slices_Index_int_int #[(Value.slice sa0.a sa0.n sa0.c), (Value.int .i64 za1)] h
    (fun v1 h1 => (∃ z1 : Int, ((v1 = (Value.int .i64 z1)) ∧
    (R (Value.bool (decide ((0 : Int) ≤ z1))) h1)))))) :
  HC P F_slices_Contains_int_int #[.slice sa0.a sa0.n sa0.c, .int .i64 za1] h R :=
  HC.of_eq (args := [.slice sa0.a sa0.n sa0.c, .int .i64 za1]) (fn := Tryd.f45) (by kernel_rfl) (by kernel_rfl) (by kernel_rfl) (by kernel_rfl) (qs := [29, 32, 35, 105, 119]) (by kernel_rfl) H

/-- slices.IndexFunc[[]webster/api.Obj,webster/api.Obj] -/
theorem S_slices_IndexFunc_api_Obj_api_Obj {sa0 : Sl} {va1 : Value} {h : Heap} {R : Value → Heap → Prop} (H :
  (∃ I1 : (Int → (Int → (Heap → Prop))), (∃ μ1 : (Int → (Int → (Heap → Nat))), ((I1 (0 : Int) (0 : Int) h) ∧
  (∀ z1 : Int, (∀ z2 : Int, (∀ h1 : Heap, ((I1 z1 z2 h1) →
  (cond (decide (z1 < (sa0.n : Int)))
    (optE sa0.a False (fun p1 => (((0 : Int) ≤ z1) ∧
    ((z1 < (sa0.n : Int)) ∧
    (∃ z3 : Int, (((cellH h1 (Addr.add (Addr.add p1 ((Int.toNat z1) * 4)) 0)) = (some (Value.int .i64 z3))) ∧
    (∃ z4 : Int, (((cellH h1 (Addr.add (Addr.add p1 ((Int.toNat z1) * 4)) 1)) = (some (Value.int .i64 z4))) ∧
    (∃ s1 : Sl, (((cellH h1 (Addr.add (Addr.add p1 ((Int.toNat z1) * 4)) 2)) = (some (Value.slice s1.a s1.n s1.c))) ∧
    (∃ s2 : Sl, (((cellH h1 (Addr.add (Addr.add p1 ((Int.toNat z1) * 4)) 3)) = (some (Value.slice s2.a s2.n s2.c))) ∧
    (HV P va1 #[(Value.agg #[(Value.int .i64 z3), (Value.int .i64 z4), (Value.slice s1.a s1.n s1.c), (Value.slice s2.a s2.n s2.c)])] h1
      (fun v1 h1_1 => (∃ b1 : Bool, ((v1 = (Value.bool b1)) ∧
      (cond b1
        (R (Value.int .i64 z1) h1_1)
        ((InI (z1 + (1 : Int))) ∧
        ((I1 (z1 + (1 : Int)) z2 h1_1) ∧
        ((μ1 (z1 + (1 : Int)) z2 h1_1) < (μ1 z1 z2 h1)))))))))))))))))))))
    (R (Value.int .i64 (-1 : Int)) h1)))))))))) :
  HC P F_slices_IndexFunc_api_Obj_api_Obj #[.slice sa0.a sa0.n sa0.c, va1] h R :=
  HC.of_eq (args := [.slice sa0.a sa0.n sa0.c, va1]) (fn := Tryd.f64) (by kernel_rfl) (by kernel_rfl) (by kernel_rfl) (by kernel_rfl) (qs := [29, 32, 35, 105, 119]) (by kernel_rfl) H

/-- webster/prim.number -/
theorem S_prim_number {za0 : Int} {za1 : Int} {za2 : Int} {h : Heap} {R : Value → Heap → Prop} (H :
  (∀ J1 : (Bool → (Int → (Heap → Prop))), ((∀ b1 : Bool, (∀ z1 : Int, (∀ h1 : Heap, ((HC P F_prim_down #[(Value.int .i64 za1), (Value.int .i64 za2)] h1
        (fun v1 h1_1 => (∃ z2 : Int, (∃ z3 : Int, ((v1 = (Value.tuple #[(Value.int .i64 z2), (Value.int .i64 z3)])) ∧
        (cond (za0 == (10 : Int))
          (R (Value.tuple #[(Value.int .i64 z3), (Value.bool true)]) h1_1)
          (cond (za0 == (13 : Int))
            (R (Value.tuple #[(Value.int .i64 z2), (Value.bool true)]) h1_1)
            (R (Value.tuple #[(Value.int .i64 z2), (Value.bool (z3 == (0 : Int)))]) h1_1)))))))) →
    (J1 b1 z1 h1))))) →
  (cond (za0 == (0 : Int))
    ((InI (za1 + za2)) ∧
    (R (Value.tuple #[(Value.int .i64 (za1 + za2)), (Value.bool true)]) h))
    (cond (za0 == (1 : Int))
      ((InI (za1 - za2)) ∧
      (R (Value.tuple #[(Value.int .i64 (za1 - za2)), (Value.bool true)]) h))
      (cond (za0 == (8 : Int))
        ((InI (za1 * za2)) ∧
        (R (Value.tuple #[(Value.int .i64 (za1 * za2)), (Value.bool true)]) h))
        (cond (za0 == (14 : Int))
          (R (Value.tuple #[(Value.int .i64 (andI (Go.IntKind.i64) za1 za2)), (Value.bool true)]) h)
          (cond (za0 == (15 : Int))
            (R (Value.tuple #[(Value.int .i64 (orI (Go.IntKind.i64) za1 za2)), (Value.bool true)]) h)
            (cond (za2 == (0 : Int))
              (R (Value.tuple #[(Value.int .i64 (0 : Int)), (Value.bool false)]) h)
              (cond (za0 != (9 : Int))
                (cond (za0 != (10 : Int))
                  (cond (za0 != (13 : Int))
                    (R (Value.tuple #[(Value.int .i64 (0 : Int)), (Value.bool false)]) h)
                    (J1 false (0 : Int) h))
                  (J1 false (0 : Int) h))
                (J1 false (0 : Int) h))))))))))) :
  HC P F_prim_number #[.int .i64 za0, .int .i64 za1, .int .i64 za2] h R :=
  HC.of_eq (args := [.int .i64 za0, .int .i64 za1, .int .i64 za2]) (fn := Tryd.f68) (by kernel_rfl) (by kernel_rfl) (by kernel_rfl) (by kernel_rfl) (qs := [29, 32, 35, 105, 119, 30000001]) (by kernel_rfl) H

/-- webster/large.Int -/
theorem S_large_Int {sa0 : Sl} {h : Heap} {R : Value → Heap → Prop} (H :
  (HC P F_large_Right #[(Value.slice sa0.a sa0.n sa0.c)] h
    (fun v1 h1 => (∃ b1 : Bool, ((v1 = (Value.bool b1)) ∧
    (cond (!b1)
      (R (Value.tuple #[(Value.int .i64 (0 : Int)), (Value.bool false)]) h1)
      (cond (decide ((8 : Int) < (sa0.n : Int)))
        (R (Value.tuple #[(Value.int .i64 (0 : Int)), (Value.bool false)]) h1)
        (cond ((sa0.n : Int) == (8 : Int))
          (optE sa0.a False (fun p1 => (((0 : Int) ≤ (7 : Int)) ∧
          (((7 : Int) < (sa0.n : Int)) ∧
          (∃ z1 : Int, (((cellH h1 (Addr.add p1 7)) = (some (Value.int .u8 z1))) ∧
          (cond (decide ((127 : Int) < z1))
            (R (Value.tuple #[(Value.int .i64 (0 : Int)), (Value.bool false)]) h1)
            (∀ h1_1 : Heap, ((h1_1 = (Array.push h1 (Obj.cells #[(Value.int .i64 (0 : Int))] T_int (0, 0)))) →
            ((StOK h1_1 (Addr.mk (Array.size h1) 0 none) 1) ∧
            (∀ h2 : Heap, ((h2 = (putH h1_1 (Addr.mk (Array.size h1) 0 none) (Value.int .i64 (0 : Int)))) →
            (HC P F_slices_Backward_byte_byte #[(Value.slice sa0.a sa0.n sa0.c)] h2
              (fun v2 h2_1 => (∃ v3 : Value, ((v2 = v3) ∧
              (∀ mk1 : (LoopState → (Ex → Obj)), (∀ h3 : Heap, ((h3 = (Array.push h2_1 (Obj.deferred (some [])))) →
              (∀ h4 : Heap, ((h4 = (Array.push h3 (mk1 (Go.LoopState.ready) (Go.Hv.Ex.normal)))) →
              ((∀ v4 : Value, (∀ v5 : Value, (∀ h5 : Heap, (∀ R1 : (Value → (Heap → Prop)), ((((h5)[(Array.size h3)]? = (some (mk1 (Go.LoopState.ready) (Go.Hv.Ex.normal)))) ∧
                  (asI v5 (fun j1 z2 => (if (j1 = (Go.IntKind.u8)) then
                    (((h5)[(Array.size h3)]? = (some (mk1 (Go.LoopState.ready) (Go.Hv.Ex.normal)))) ∧
                    (∀ h6 : Heap, ((h6 = (Array.setIfInBounds h5 (Array.size h3) (mk1 (Go.LoopState.busy) (Go.Hv.Ex.normal)))) →
                    (∃ z3 : Int, (((cellH h6 (Addr.mk (Array.size h1) 0 none)) = (some (Value.int .i64 z3))) ∧
                    (((0 : Int) ≤ (8 : Int)) ∧
                    (((8 : Int) < (64 : Int)) ∧
                    ((InI (z3 * (256 : Int))) ∧
                    ((InI z2) ∧
                    ((StOK h6 (Addr.mk (Array.size h1) 0 none) 1) ∧
                    (∀ h7 : Heap, ((h7 = (putH h6 (Addr.mk (Array.size h1) 0 none) (Value.int .i64 (orI (Go.IntKind.i64) (z3 * (256 : Int)) z2)))) →
                    (((h7)[(Array.size h3)]? = (some (mk1 (Go.LoopState.busy) (Go.Hv.Ex.normal)))) ∧
                    (∀ h8 : Heap, ((h8 = (Array.setIfInBounds h7 (Array.size h3) (mk1 (Go.LoopState.ready) (Go.Hv.Ex.normal)))) →
                    (R1 (Value.bool true) h8)))))))))))))))) else
                    False)))) →
                (HV P (Value.func (Fn.yield (Array.size h3)) #[] #[]) #[v4, v5] h5
                  (fun v6 h6 => (R1 v6 h6)))))))) →
              (asFn v3 (fun f1 h5 h6 => (HC P f1 (HAppend.hAppend (HAppend.hAppend h5 #[(Value.func (Fn.yield (Array.size h3)) #[] #[])]) h6) h4
                (fun v4 h41 => (((h41)[(Array.size h3)]? = (some (mk1 (Go.LoopState.ready) (Go.Hv.Ex.normal)))) ∧
                (∀ h7 : Heap, ((h7 = (Array.setIfInBounds h41 (Array.size h3) (mk1 (Go.LoopState.exhausted) (Go.Hv.Ex.normal)))) →
                (∃ z2 : Int, (((cellH h7 (Addr.mk (Array.size h1) 0 none)) = (some (Value.int .i64 z2))) ∧
                (((h7)[(Array.size h2_1)]? = (some (Obj.deferred (some [])))) ∧
                (∀ h8 : Heap, ((h8 = (Array.setIfInBounds h7 (Array.size h2_1) (Obj.deferred none))) →
                (R (Value.tuple #[(Value.int .i64 z2), (Value.bool true)]) h8)))))))))))))))))))))))))))))))))))
          (∀ h1_1 : Heap, ((h1_1 = (Array.push h1 (Obj.cells #[(Value.int .i64 (0 : Int))] T_int (0, 0)))) →
          ((StOK h1_1 (Addr.mk (Array.size h1) 0 none) 1) ∧
          (∀ h2 : Heap, ((h2 = (putH h1_1 (Addr.mk (Array.size h1) 0 none) (Value.int .i64 (0 : Int)))) →
          (HC P F_slices_Backward_byte_byte #[(Value.slice sa0.a sa0.n sa0.c)] h2
            (fun v2 h2_1 => (∃ v3 : Value, ((v2 = v3) ∧
            (∀ mk1 : (LoopState → (Ex → Obj)), (∀ h3 : Heap, ((h3 = (Array.push h2_1 (Obj.deferred (some [])))) →
            (∀ h4 : Heap, ((h4 = (Array.push h3 (mk1 (Go.LoopState.ready) (Go.Hv.Ex.normal)))) →
            ((∀ v4 : Value, (∀ v5 : Value, (∀ h5 : Heap, (∀ R1 : (Value → (Heap → Prop)), ((((h5)[(Array.size h3)]? = (some (mk1 (Go.LoopState.ready) (Go.Hv.Ex.normal)))) ∧
                (asI v5 (fun j1 z1 => (if (j1 = (Go.IntKind.u8)) then
                  (((h5)[(Array.size h3)]? = (some (mk1 (Go.LoopState.ready) (Go.Hv.Ex.normal)))) ∧
                  (∀ h6 : Heap, ((h6 = (Array.setIfInBounds h5 (Array.size h3) (mk1 (Go.LoopState.busy) (Go.Hv.Ex.normal)))) →
                  (∃ z2 : Int, (((cellH h6 (Addr.mk (Array.size h1) 0 none)) = (some (Value.int .i64 z2))) ∧
                  (((0 : Int) ≤ (8 : Int)) ∧
                  (((8 : Int) < (64 : Int)) ∧
                  ((InI (z2 * (256 : Int))) ∧
                  ((InI z1) ∧
                  ((StOK h6 (Addr.mk (Array.size h1) 0 none) 1) ∧
                  (∀ h7 : Heap, ((h7 = (putH h6 (Addr.mk (Array.size h1) 0 none) (Value.int .i64 (orI (Go.IntKind.i64) (z2 * (256 : Int)) z1)))) →
                  (((h7)[(Array.size h3)]? = (some (mk1 (Go.LoopState.busy) (Go.Hv.Ex.normal)))) ∧
                  (∀ h8 : Heap, ((h8 = (Array.setIfInBounds h7 (Array.size h3) (mk1 (Go.LoopState.ready) (Go.Hv.Ex.normal)))) →
                  (R1 (Value.bool true) h8)))))))))))))))) else
                  False)))) →
              (HV P (Value.func (Fn.yield (Array.size h3)) #[] #[]) #[v4, v5] h5
                (fun v6 h6 => (R1 v6 h6)))))))) →
            (asFn v3 (fun f1 h5 h6 => (HC P f1 (HAppend.hAppend (HAppend.hAppend h5 #[(Value.func (Fn.yield (Array.size h3)) #[] #[])]) h6) h4
              (fun v4 h41 => (((h41)[(Array.size h3)]? = (some (mk1 (Go.LoopState.ready) (Go.Hv.Ex.normal)))) ∧
              (∀ h7 : Heap, ((h7 = (Array.setIfInBounds h41 (Array.size h3) (mk1 (Go.LoopState.exhausted) (Go.Hv.Ex.normal)))) →
              (∃ z1 : Int, (((cellH h7 (Addr.mk (Array.size h1) 0 none)) = (some (Value.int .i64 z1))) ∧
              (((h7)[(Array.size h2_1)]? = (some (Obj.deferred (some [])))) ∧
              (∀ h8 : Heap, ((h8 = (Array.setIfInBounds h7 (Array.size h2_1) (Obj.deferred none))) →
              (R (Value.tuple #[(Value.int .i64 z1), (Value.bool true)]) h8)))))))))))))))))))))))))))))))))))) :
  HC P F_large_Int #[.slice sa0.a sa0.n sa0.c] h R :=
  HC.of_eqM (args := [.slice sa0.a sa0.n sa0.c]) (fn := Tryd.f75) (by kernel_rfl) (by kernel_rfl) (by kernel_rfl) (by kernel_rfl) (qs := [29, 32, 35, 105, 119, 30100002]) (by kernel_rfl) H

/-- webster/kit.Instance -/
theorem S_kit_Instance {va0 : Value} {za1 : Int} {sa2 : Sl} {h : Heap} {R : Value → Heap → Prop} (H :
  (HC P F_kit_Shape #[va0, (Value.int .i64 za1)] h
    (fun v1 h1 => (∃ z1 : Int, (∃ z2 : Int, (∃ b1 : Bool, (∃ z3 : Int, ((v1 = (Value.tuple #[(Value.int .i64 z1), (Value.int .i64 z2), (Value.bool b1), (Value.int .i64 z3)])) ∧
    (cond (z3 != (0 : Int))
      (R (Value.tuple #[(Value.int .i64 (0 : Int)), (Value.int .i64 z3)]) h1)
      (∀ J1 : (Int → (Int → (Heap → Prop))), ((∀ z4 : Int, (∀ z5 : Int, (∀ h1_1 : Heap, ((∃ I1 : (Int → (Int → (Heap → Prop))), (∃ μ1 : (Int → (Int → (Heap → Nat))), ((I1 (0 : Int) z2 h1_1) ∧
          (∀ z6 : Int, (∀ z7 : Int, (∀ h2 : Heap, ((I1 z6 z7 h2) →
          (cond (decide (z6 < (sa2.n : Int)))
            (optE sa2.a False (fun p1 => (((0 : Int) ≤ z6) ∧
            ((z6 < (sa2.n : Int)) ∧
            (∃ z8 : Int, (((cellH h2 (Addr.add p1 ((Int.toNat z6) * 1))) = (some (Value.int .i64 z8))) ∧
            ((InI (z7 + z8)) ∧
            ((InI (z6 + (1 : Int))) ∧
            ((I1 (z6 + (1 : Int)) (z7 + z8) h2) ∧
            ((μ1 (z6 + (1 : Int)) (z7 + z8) h2) < (μ1 z6 z7 h2)))))))))))
            (HI P va0 "New" #[(Value.int .i64 za1), (Value.int .i64 z1), (Value.int .i64 z7)] h2
              (fun v2 h2_1 => (∃ z8 : Int, (∃ z9 : Int, ((v2 = (Value.tuple #[(Value.int .i64 z8), (Value.int .i64 z9)])) ∧
              (R (Value.tuple #[(Value.int .i64 z8), (Value.int .i64 z9)]) h2_1)))))))))))))) →
        (J1 z4 z5 h1_1))))) →
      (cond (decide ((1 : Int) < (sa2.n : Int)))
        (R (Value.tuple #[(Value.int .i64 (0 : Int)), (Value.int .i64 (2 : Int))]) h1)
        (HC P F_slices_ContainsFunc_int_int #[(Value.slice sa2.a sa2.n sa2.c), (Value.func (Fn.func F_kit_Instance_1) #[] #[])] h1
          (fun v2 h2 => (∃ b2 : Bool, ((v2 = (Value.bool b2)) ∧
          (cond b2
            (R (Value.tuple #[(Value.int .i64 (0 : Int)), (Value.int .i64 (2 : Int))]) h2)
            (cond ((sa2.n : Int) == (1 : Int))
              (cond (!b1)
                (R (Value.tuple #[(Value.int .i64 (0 : Int)), (Value.int .i64 (2 : Int))]) h2)
                (J1 (0 : Int) (0 : Int) h2))
              (J1 (0 : Int) (0 : Int) h2))))))))))))))))))) :
  HC P F_kit_Instance #[va0, .int .i64 za1, .slice sa2.a sa2.n sa2.c] h R :=
  HC.of_eq (args := [va0, .int .i64 za1, .slice sa2.a sa2.n sa2.c]) (fn := Tryd.f82) (by kernel_rfl) (by kernel_rfl) (by kernel_rfl) (by kernel_rfl) (qs := [29, 32, 35, 105, 119, 30100010]) (by kernel_rfl) H

/-- webster/kit.Shape -/
theorem S_kit_Shape {va0 : Value} {za1 : Int} {h : Heap} {R : Value → Heap → Prop} (H :
  (HI P va0 "Fetch" #[(Value.int .i64 za1), (Value.int .i64 (2 : Int))] h
    (fun v1 h1 => (∃ z1 : Int, (∃ z2 : Int, ((v1 = (Value.tuple #[(Value.int .i64 z1), (Value.int .i64 z2)])) ∧
    (cond (z2 != (0 : Int))
      (R (Value.tuple #[(Value.int .i64 (0 : Int)), (Value.int .i64 (0 : Int)), (Value.bool false), (Value.int .i64 z2)]) h1)
      (HC P F_word_Number #[(Value.int .i64 z1)] h1
        (fun v2 h2 => (∃ z3 : Int, (∃ b1 : Bool, ((v2 = (Value.tuple #[(Value.int .i64 z3), (Value.bool b1)])) ∧
        (((0 : Int) ≤ (2 : Int)) ∧
        (((2 : Int) < (64 : Int)) ∧
        (∀ J1 : (Int → (Bool → (Int → (Int → (Heap → Prop))))), ((∀ z4 : Int, (∀ b2 : Bool, (∀ z5 : Int, (∀ z6 : Int, (∀ h1_1 : Heap, ((((0 : Int) ≤ (10 : Int)) ∧
            (((10 : Int) < (64 : Int)) ∧
            (R (Value.tuple #[(Value.int .i64 (andI (Go.IntKind.i64) z3 (3 : Int))), (Value.int .i64 (andI (Go.IntKind.i64) (z3 / (4 : Int)) (255 : Int))), (Value.bool ((andI (Go.IntKind.i64) (z3 / (1024 : Int)) (1 : Int)) == (1 : Int))), (Value.int .i64 (0 : Int))]) h1_1))) →
          (J1 z4 b2 z5 z6 h1_1))))))) →
        (cond (!b1)
          (R (Value.tuple #[(Value.int .i64 (0 : Int)), (Value.int .i64 (0 : Int)), (Value.bool false), (Value.int .i64 (2 : Int))]) h2)
          (cond (decide (z3 < (0 : Int)))
            (R (Value.tuple #[(Value.int .i64 (0 : Int)), (Value.int .i64 (0 : Int)), (Value.bool false), (Value.int .i64 (2 : Int))]) h2)
            (cond ((andI (Go.IntKind.i64) z3 (3 : Int)) != (1 : Int))
              (cond ((andI (Go.IntKind.i64) z3 (3 : Int)) != (2 : Int))
                (R (Value.tuple #[(Value.int .i64 (0 : Int)), (Value.int .i64 (0 : Int)), (Value.bool false), (Value.int .i64 (2 : Int))]) h2)
                (cond ((andI (Go.IntKind.i64) z3 (3 : Int)) == (2 : Int))
                  (cond (decide ((0 : Int) < (andI (Go.IntKind.i64) (z3 / (4 : Int)) (255 : Int))))
                    (R (Value.tuple #[(Value.int .i64 (0 : Int)), (Value.int .i64 (0 : Int)), (Value.bool false), (Value.int .i64 (2 : Int))]) h2)
                    (J1 (0 : Int) false (0 : Int) (0 : Int) h2))
                  (J1 (0 : Int) false (0 : Int) (0 : Int) h2)))
              (cond ((andI (Go.IntKind.i64) z3 (3 : Int)) == (2 : Int))
                (cond (decide ((0 : Int) < (andI (Go.IntKind.i64) (z3 / (4 : Int)) (255 : Int))))
                  (R (Value.tuple #[(Value.int .i64 (0 : Int)), (Value.int .i64 (0 : Int)), (Value.bool false), (Value.int .i64 (2 : Int))]) h2)
                  (J1 (0 : Int) false (0 : Int) (0 : Int) h2))
                (J1 (0 : Int) false (0 : Int) (0 : Int) h2))))))))))))))))))))) :
  HC P F_kit_Shape #[va0, .int .i64 za1] h R :=
  HC.of_eq (args := [va0, .int .i64 za1]) (fn := Tryd.f108) (by kernel_rfl) (by kernel_rfl) (by kernel_rfl) (by kernel_rfl) (qs := [29, 32, 35, 105, 119, 30100012]) (by kernel_rfl) H

/-- (*webster/flat.Memory).Byte -/
theorem S_flat_Memory_Byte {aa0 : Option Addr} {za1 : Int} {za2 : Int} {h : Heap} {R : Value → Heap → Prop} (H :
  (HC P F_flat_Memory_place #[(Value.pointer aa0), (Value.int .i64 za1), (Value.int .i64 (2 : Int)), (Value.int .i64 za2)] h
    (fun v1 h1 => (∃ a1 : (Option Addr), (∃ z1 : Int, ((v1 = (Value.tuple #[(Value.pointer a1), (Value.int .i64 z1)])) ∧
    (cond (z1 != (0 : Int))
      (R (Value.tuple #[(Value.int .i64 (0 : Int)), (Value.int .i64 z1)]) h1)
      (optE a1 False (fun p1 => (∃ s1 : Sl, (((cellH h1 (Addr.add p1 3)) = (some (Value.slice s1.a s1.n s1.c))) ∧
      (optE s1.a False (fun p2 => (((0 : Int) ≤ za2) ∧
      ((za2 < (s1.n : Int)) ∧
      (∃ z2 : Int, (((cellH h1 (Addr.add p2 ((Int.toNat za2) * 1))) = (some (Value.int .u8 z2))) ∧
      ((InI z2) ∧
      (R (Value.tuple #[(Value.int .i64 z2), (Value.int .i64 (0 : Int))]) h1))))))))))))))))))) :
  HC P F_flat_Memory_Byte #[.pointer aa0, .int .i64 za1, .int .i64 za2] h R :=
  HC.of_eq (args := [.pointer aa0, .int .i64 za1, .int .i64 za2]) (fn := Tryd.f153) (by kernel_rfl) (by kernel_rfl) (by kernel_rfl) (by kernel_rfl) (qs := [29, 32, 35, 105, 119]) (by kernel_rfl) H

/-- slices.Repeat[[]int,int] -/
theorem S_slices_Repeat_int_int {sa0 : Sl} {za1 : Int} {h : Heap} {R : Value → Heap → Prop} (H :
  (∀ J1 : (Heap → Prop), ((∀ h1 : Heap, ((HC P F_math_bits_Mul #[(Value.int .u64 (IntKind.wrap (Go.IntKind.u64) (sa0.n : Int))), (Value.int .u64 (IntKind.wrap (Go.IntKind.u64) za1))] h1
        (fun v1 h1_1 => (∃ z1 : Int, (∃ z2 : Int, ((v1 = (Value.tuple #[(Value.int .u64 z1), (Value.int .u64 z2)])) ∧
        (∀ J2 : (Heap → Prop), ((∀ h2 : Heap, (((InI z2) ∧
            (((0 : Int) ≤ z2) ∧
            ((z2 ≤ z2) ∧
            ((z2 ≤ (1099511627776 : Int)) ∧
            ((8 ≤ 256) ∧
            ((1 = 1) ∧
            ((0 < 1) ∧
            (∀ h3 : Heap, ((h3 = (Array.push h2 (Obj.cells (List.toArray (List.flatten (List.replicate (Int.toNat z2) [(Value.int .i64 (0 : Int))]))) T_int (0, 0)))) →
            (optE sa0.a ((sa0.n = 0) ∧
            (∀ h4 : Heap, ((h4 = h3) →
            (∃ I1 : (Int → (Heap → Prop)), (∃ μ1 : (Int → (Heap → Nat)), ((I1 (0 : Int) h4) ∧
            (∀ z3 : Int, (∀ h5 : Heap, ((I1 z3 h5) →
            (cond (decide (z3 < (((Int.toNat z2) : Nat) : Int)))
              (((0 : Int) ≤ z3) ∧
              ((z3 ≤ (((Int.toNat z2) : Nat) : Int)) ∧
              (((0 : Int) ≤ z3) ∧
              ((z3 ≤ (((Int.toNat z2) : Nat) : Int)) ∧
              (optE (if ((Int.toNat z2) = (Int.toNat z3)) then (some (Addr.mk (Array.size h2) 0 none)) else (some (Addr.add (Addr.mk (Array.size h2) 0 none) ((Int.toNat z3) * 1)))) ((((Int.toNat z2) - (Int.toNat z3)) = 0) ∧
              ((((some (Addr.mk (Array.size h2) 0 none)) = none) →
               ((Int.toNat z3) = 0)) ∧
              (∀ h6 : Heap, ((h6 = h5) →
              ((InI (z3 + (0 : Int))) ∧
              ((I1 (z3 + (0 : Int)) h6) ∧
              ((μ1 (z3 + (0 : Int)) h6) < (μ1 z3 h5)))))))) (fun p1 => (∃ vs1 : (List Value), (((cellsH h5 (Addr.mk (Array.size h2) 0 none) ((Min.min (Int.toNat z3) ((Int.toNat z2) - (Int.toNat z3))) * 1)) = (some vs1)) ∧
              ((∀ v2 : Value, ((List.Mem v2 vs1) →
               ((oneB v2) = true))) ∧
              ((StOK h5 p1 ((Min.min (Int.toNat z3) ((Int.toNat z2) - (Int.toNat z3))) * 1)) ∧
              (∀ h6 : Heap, ((h6 = (putsH h5 p1 vs1 0)) →
              ((InI (z3 + (((Min.min (Int.toNat z3) ((Int.toNat z2) - (Int.toNat z3))) : Nat) : Int))) ∧
              ((I1 (z3 + (((Min.min (Int.toNat z3) ((Int.toNat z2) - (Int.toNat z3))) : Nat) : Int)) h6) ∧
              ((μ1 (z3 + (((Min.min (Int.toNat z3) ((Int.toNat z2) - (Int.toNat z3))) : Nat) : Int)) h6) < (μ1 z3 h5))))))))))))))))
              (R (Value.slice (some (Addr.mk (Array.size h2) 0 none)) (Int.toNat z2) (Int.toNat z2)) h5))))))))))) (fun p1 => (∃ vs1 : (List Value), (((cellsH h3 p1 ((Min.min sa0.n (Int.toNat z2)) * 1)) = (some vs1)) ∧
            ((∀ v2 : Value, ((List.Mem v2 vs1) →
             ((oneB v2) = true))) ∧
            ((StOK h3 (Addr.mk (Array.size h2) 0 none) ((Min.min sa0.n (Int.toNat z2)) * 1)) ∧
            (∀ h4 : Heap, ((h4 = (putsH h3 (Addr.mk (Array.size h2) 0 none) vs1 0)) →
            (∃ I1 : (Int → (Heap → Prop)), (∃ μ1 : (Int → (Heap → Nat)), ((I1 (((Min.min sa0.n (Int.toNat z2)) : Nat) : Int) h4) ∧
            (∀ z3 : Int, (∀ h5 : Heap, ((I1 z3 h5) →
            (cond (decide (z3 < (((Int.toNat z2) : Nat) : Int)))
              (((0 : Int) ≤ z3) ∧
              ((z3 ≤ (((Int.toNat z2) : Nat) : Int)) ∧
              (((0 : Int) ≤ z3) ∧
              ((z3 ≤ (((Int.toNat z2) : Nat) : Int)) ∧
              (optE (if ((Int.toNat z2) = (Int.toNat z3)) then (some (Addr.mk (Array.size h2) 0 none)) else (some (Addr.add (Addr.mk (Array.size h2) 0 none) ((Int.toNat z3) * 1)))) ((((Int.toNat z2) - (Int.toNat z3)) = 0) ∧
              ((((some (Addr.mk (Array.size h2) 0 none)) = none) →
               ((Int.toNat z3) = 0)) ∧
              (∀ h6 : Heap, ((h6 = h5) →
              ((InI (z3 + (0 : Int))) ∧
              ((I1 (z3 + (0 : Int)) h6) ∧
              ((μ1 (z3 + (0 : Int)) h6) < (μ1 z3 h5)))))))) (fun p2 => (∃ vs2 : (List Value), (((cellsH h5 (Addr.mk (Array.size h2) 0 none) ((Min.min (Int.toNat z3) ((Int.toNat z2) - (Int.toNat z3))) * 1)) = (some vs2)) ∧
              ((∀ v2 : Value, ((List.Mem v2 vs2) →
               ((oneB v2) = true))) ∧
              ((StOK h5 p2 ((Min.min (Int.toNat z3) ((Int.toNat z2) - (Int.toNat z3))) * 1)) ∧
              (∀ h6 : Heap, ((h6 = (putsH h5 p2 vs2 0)) →
              ((InI (z3 + (((Min.min (Int.toNat z3) ((Int.toNat z2) - (Int.toNat z3))) : Nat) : Int))) ∧
              ((I1 (z3 + (((Min.min (Int.toNat z3) ((Int.toNat z2) - (Int.toNat z3))) : Nat) : Int)) h6) ∧
              ((μ1 (z3 + (((Min.min (Int.toNat z3) ((Int.toNat z2) - (Int.toNat z3))) : Nat) : Int)) h6) < (μ1 z3 h5))))))))))))))))
              (R (Value.slice (some (Addr.mk (Array.size h2) 0 none)) (Int.toNat z2) (Int.toNat z2)) h5))))))))))))))))))))))))) →
          (J2 h2))) →
        (cond (decide ((0 : Int) < z1))
          False
          (cond (decide ((9223372036854775807 : Int) < z2))
            False
            (J2 h1_1)))))))))) →
    (J1 h1))) →
  (cond (decide (za1 < (0 : Int)))
    False
    (J1 h))))) :
  HC P F_slices_Repeat_int_int #[.slice sa0.a sa0.n sa0.c, .int .i64 za1] h R :=
  HC.of_eq (args := [.slice sa0.a sa0.n sa0.c, .int .i64 za1]) (fn := Tryd.f162) (by kernel_rfl) (by kernel_rfl) (by kernel_rfl) (by kernel_rfl) (qs := [29, 32, 35, 105, 119, 30100002, 30100008]) (by kernel_rfl) H

/-- webster/websterlaw16.PrimLarge -/
theorem S_websterlaw16_PrimLarge {za0 : Int} {za1 : Int} {h : Heap} {R : Value → Heap → Prop} (H :
  (∀ h1 : Heap, ((h1 = (Array.push h (Obj.cells #[(Value.int .i64 (2 : Int)), (Value.int .i64 (2 : Int)), (Value.int .i64 (2 : Int)), (Value.int .i64 (2 : Int)), (Value.int .i64 (2 : Int)), (Value.int .i64 (2 : Int))] T_int (0, 0)))) →
  (∀ h2 : Heap, ((h2 = (Array.push h1 (Obj.cells #[(Value.int .i64 (2 : Int)), (Value.int .i64 (1 : Int)), (Value.slice none 0 0), (Value.slice none 0 0), (Value.int .i64 (2 : Int)), (Value.int .i64 (1 : Int)), (Value.slice none 0 0), (Value.slice none 0 0), (Value.int .i64 (2 : Int)), (Value.int .i64 (1 : Int)), (Value.slice none 0 0), (Value.slice none 0 0), (Value.int .i64 (2 : Int)), (Value.int .i64 (1 : Int)), (Value.slice (some (Addr.mk (Array.size h) 0 none)) 6 6), (Value.slice none 0 0)] T_api_Obj (0, 0)))) →
  (HC P F_flat_New #[] h2
    (fun v1 h1_1 => (∃ a1 : (Option Addr), ((v1 = (Value.pointer a1)) ∧
    (cond (Option.isNone a1)
      (R (Value.bool false) h1_1)
      (HC P F_flat_Load #[(Value.iface T__flat_Memory (Value.pointer a1)), (Value.slice (some (Addr.mk (Array.size h1) 0 none)) 4 4)] h1_1
        (fun v2 h2_1 => (∃ z1 : Int, ((v2 = (Value.int .i64 z1)) ∧
        (cond (z1 != (0 : Int))
          (R (Value.bool false) h2_1)
          (((1073741824 : Int) ≠ (0 : Int)) ∧
          ((InI (Int.tmod za0 (1073741824 : Int))) ∧
          ((InI ((2 : Int) * (Int.tmod za0 (1073741824 : Int)))) ∧
          ((InI (((2 : Int) * (Int.tmod za0 (1073741824 : Int))) + (1 : Int))) ∧
          (((1073741824 : Int) ≠ (0 : Int)) ∧
          ((InI (Int.tmod za1 (1073741824 : Int))) ∧
          ((InI ((2 : Int) * (Int.tmod za1 (1073741824 : Int)))) ∧
          ((InI (((2 : Int) * (Int.tmod za1 (1073741824 : Int))) + (1 : Int))) ∧
          (∀ h3 : Heap, ((h3 = (Array.push h2_1 (Obj.cells #[(Value.int .i64 (((2 : Int) * (Int.tmod za1 (1073741824 : Int))) + (1 : Int)))] T_int (0, 0)))) →
          (HC P F_prim_Do #[(Value.iface T__flat_Memory (Value.pointer a1)), (Value.int .i64 (21 : Int)), (Value.int .i64 (((2 : Int) * (Int.tmod za0 (1073741824 : Int))) + (1 : Int))), (Value.slice (some (Addr.mk (Array.size h2_1) 0 none)) 1 1)] h3
            (fun v3 h3_1 => (∃ z2 : Int, (∃ b1 : Bool, (∃ z3 : Int, ((v3 = (Value.tuple #[(Value.int .i64 z2), (Value.bool b1), (Value.int .i64 z3)])) ∧
            (∀ h4 : Heap, ((h4 = (Array.push h3_1 (Obj.cells #[(Value.int .i64 (((2 : Int) * (Int.tmod za1 (1073741824 : Int))) + (1 : Int)))] T_int (0, 0)))) →
            (HC P F_prim_Do #[(Value.iface T__flat_Memory (Value.pointer a1)), (Value.int .i64 (22 : Int)), (Value.int .i64 z2), (Value.slice (some (Addr.mk (Array.size h3_1) 0 none)) 1 1)] h4
              (fun v4 h4_1 => (∃ z4 : Int, (∃ b2 : Bool, (∃ z5 : Int, ((v4 = (Value.tuple #[(Value.int .i64 z4), (Value.bool b2), (Value.int .i64 z5)])) ∧
              (∀ h5 : Heap, ((h5 = (Array.push h4_1 (Obj.cells #[(Value.int .i64 (((2 : Int) * (Int.tmod za1 (1073741824 : Int))) + (1 : Int)))] T_int (0, 0)))) →
              (HC P F_prim_Do #[(Value.iface T__flat_Memory (Value.pointer a1)), (Value.int .i64 (29 : Int)), (Value.int .i64 (((2 : Int) * (Int.tmod za0 (1073741824 : Int))) + (1 : Int))), (Value.slice (some (Addr.mk (Array.size h4_1) 0 none)) 1 1)] h5
                (fun v5 h5_1 => (∃ z6 : Int, (∃ b3 : Bool, (∃ z7 : Int, ((v5 = (Value.tuple #[(Value.int .i64 z6), (Value.bool b3), (Value.int .i64 z7)])) ∧
                (∀ h6 : Heap, ((h6 = (Array.push h5_1 (Obj.cells #[(Value.int .i64 (((2 : Int) * (Int.tmod za0 (1073741824 : Int))) + (1 : Int)))] T_int (0, 0)))) →
                (HC P F_prim_Do #[(Value.iface T__flat_Memory (Value.pointer a1)), (Value.int .i64 (29 : Int)), (Value.int .i64 (((2 : Int) * (Int.tmod za1 (1073741824 : Int))) + (1 : Int))), (Value.slice (some (Addr.mk (Array.size h5_1) 0 none)) 1 1)] h6
                  (fun v6 h6_1 => (∃ z8 : Int, (∃ b4 : Bool, (∃ z9 : Int, ((v6 = (Value.tuple #[(Value.int .i64 z8), (Value.bool b4), (Value.int .i64 z9)])) ∧
                  (cond (!b1)
                    (R (Value.bool false) h6_1)
                    (cond (!b2)
                      (R (Value.bool false) h6_1)
                      (cond (z4 != (((2 : Int) * (Int.tmod za0 (1073741824 : Int))) + (1 : Int)))
                        (R (Value.bool false) h6_1)
                        (cond (!b3)
                          (R (Value.bool false) h6_1)
                          (cond (!b4)
                            (R (Value.bool false) h6_1)
                            (∀ h7 : Heap, ((h7 = (Array.push h6_1 (Obj.cells #[(Value.int .i64 z8)] T_int (0, 0)))) →
                            (HC P F_prim_Do #[(Value.iface T__flat_Memory (Value.pointer a1)), (Value.int .i64 (22 : Int)), (Value.int .i64 z6), (Value.slice (some (Addr.mk (Array.size h6_1) 0 none)) 1 1)] h7
                              (fun v7 h7_1 => (∃ z10 : Int, (∃ b5 : Bool, (∃ z11 : Int, ((v7 = (Value.tuple #[(Value.int .i64 z10), (Value.bool b5), (Value.int .i64 z11)])) ∧
                              (cond (z10 == (1 : Int))
                                (((2 : Int) ≠ (0 : Int)) ∧
                                (((1073741824 : Int) ≠ (0 : Int)) ∧
                                ((InI (Int.tmod za0 (1073741824 : Int))) ∧
                                (((1073741824 : Int) ≠ (0 : Int)) ∧
                                ((InI (Int.tmod za1 (1073741824 : Int))) ∧
                                ((InI ((Int.tmod za0 (1073741824 : Int)) + (Int.tmod za1 (1073741824 : Int)))) ∧
                                (cond (((Int.tmod z2 (2 : Int)) != (0 : Int)) == (decide (((Int.tmod za0 (1073741824 : Int)) + (Int.tmod za1 (1073741824 : Int))) < (1073741824 : Int))))
                                  (HC P F_websterlaw16_known #[] h7_1
                                    (fun v8 h8 => (∃ b6 : Bool, ((v8 = (Value.bool b6)) ∧
                                    (R (Value.bool b6) h8)))))
                                  (R (Value.bool false) h7_1))))))))
                                (R (Value.bool false) h7_1)))))))))))))))))))))))))))))))))))))))))))))))))))))))))))))))))))))) :
  HC P F_websterlaw16_PrimLarge #[.int .u32 za0, .int .u32 za1] h R :=
  HC.of_eq (args := [.int .u32 za0, .int .u32 za1]) (fn := Tryd.f5) (by kernel_rfl) (by kernel_rfl) (by kernel_rfl) (by kernel_rfl) (qs := [29, 32, 35, 105, 119]) (by kernel_rfl) H

/-- webster/flat.New -/
theorem S_flat_New  {h : Heap} {R : Value → Heap → Prop} (H :
  (∀ h1 : Heap, ((h1 = (Array.push h (Obj.map #[] 0))) →
  (∀ h2 : Heap, ((h2 = (Array.push h1 (Obj.cells #[(Value.map (some (Array.size h))), (Value.int .i64 (0 : Int))] T_flat_Memory (0, 0)))) →
  (R (Value.pointer (some (Addr.mk (Array.size h1) 0 none))) h2)))))) :
  HC P F_flat_New #[] h R :=
  HC.of_eq (args := []) (fn := Tryd.f9) (by kernel_rfl) (by kernel_rfl) (by kernel_rfl) (by kernel_rfl) (qs := [29, 32, 35, 105, 119]) (by kernel_rfl) H

/-- webster/flat.All -/
theorem S_flat_All {va0 : Value} {h : Heap} {R : Value → Heap → Prop} (H :
  (HI P va0 "Next" #[(Value.int .i64 (0 : Int))] h
    (fun v1 h1 => (∃ z1 : Int, (∃ b1 : Bool, ((v1 = (Value.tuple #[(Value.int .i64 z1), (Value.bool b1)])) ∧
    (∃ I1 : (Bool → (Int → (Sl → (Heap → Prop)))), (∃ μ1 : (Bool → (Int → (Sl → (Heap → Nat)))), ((I1 b1 z1 (Sl.mk none 0 0) h1) ∧
    (∀ b2 : Bool, (∀ z2 : Int, (∀ s1 : Sl, (∀ h1_1 : Heap, ((I1 b2 z2 s1 h1_1) →
    (cond b2
      (∀ h2 : Heap, ((h2 = (Array.push h1_1 (Obj.cells #[(Value.int .i64 z2)] T_int (0, 0)))) →
      ((AppOK h2 1 s1.a s1.n s1.c (some (Addr.mk (Array.size h1_1) 0 none)) 1 8) ∧
      ((1 = 1) ∧
      (∀ s2 : Sl, (∀ h3 : Heap, ((Appended h2 1 [(Value.int .i64 (0 : Int))] T_int s1.a s1.n s1.c (some (Addr.mk (Array.size h1_1) 0 none)) 1 s2 h3) →
      (HI P va0 "Next" #[(Value.int .i64 z2)] h3
        (fun v2 h2_1 => (∃ z3 : Int, (∃ b3 : Bool, ((v2 = (Value.tuple #[(Value.int .i64 z3), (Value.bool b3)])) ∧
        ((I1 b3 z3 (Sl.mk s2.a s2.n s2.c) h2_1) ∧
        ((μ1 b3 z3 (Sl.mk s2.a s2.n s2.c) h2_1) < (μ1 b2 z2 s1 h1_1)))))))))))))))
      (R (Value.slice s1.a s1.n s1.c) h1_1)))))))))))))))) :
  HC P F_flat_All #[va0] h R :=
  HC.of_eq (args := [va0]) (fn := Tryd.f15) (by kernel_rfl) (by kernel_rfl) (by kernel_rfl) (by kernel_rfl) (qs := [29, 32, 35, 105, 119]) (by kernel_rfl) H

/-- webster/prim.Do -/
theorem S_prim_Do {va0 : Value} {za1 : Int} {za2 : Int} {sa3 : Sl} {h : Heap} {R : Value → Heap → Prop} (H :
  (HC P F_prim_Known #[(Value.int .i64 za1)] h
    (fun v1 h1 => (∃ z1 : Int, (∃ b1 : Bool, ((v1 = (Value.tuple #[(Value.int .i64 z1), (Value.bool b1)])) ∧
    (cond (!b1)
      (R (Value.tuple #[(Value.int .i64 (0 : Int)), (Value.bool false), (Value.int .i64 (0 : Int))]) h1)
      (cond (z1 != (sa3.n : Int))
        (R (Value.tuple #[(Value.int .i64 (0 : Int)), (Value.bool false), (Value.int .i64 (0 : Int))]) h1)
        (∀ h1_1 : Heap, ((h1_1 = (Array.push h1 (Obj.cells #[(Value.int .i64 (0 : Int)), (Value.int .i64 (0 : Int)), (Value.int .i64 (1 : Int)), (Value.int .i64 (2 : Int)), (Value.int .i64 (3 : Int)), (Value.int .i64 (4 : Int)), (Value.int .i64 (5 : Int)), (Value.int .i64 (6 : Int)), (Value.int .i64 (7 : Int)), (Value.int .i64 (8 : Int)), (Value.int .i64 (9 : Int)), (Value.int .i64 (10 : Int)), (Value.int .i64 (13 : Int)), (Value.int .i64 (0 : Int)), (Value.int .i64 (14 : Int)), (Value.int .i64 (15 : Int))] T_int (0, 0)))) →
        (∀ J1 : (Int → (Int → (Int → (Bool → (Int → (Heap → Prop)))))), ((∀ z2 : Int, (∀ z3 : Int, (∀ z4 : Int, (∀ b2 : Bool, (∀ z5 : Int, (∀ h2 : Heap, ((cond (z2 == (0 : Int))
              (R (Value.tuple #[(Value.int .i64 z3), (Value.bool true), (Value.int .i64 (0 : Int))]) h2)
              (cond (z2 == (3 : Int))
                (R (Value.tuple #[(Value.int .i64 (0 : Int)), (Value.bool false), (Value.int .i64 z2)]) h2)
                (R (Value.tuple #[(Value.int .i64 (0 : Int)), (Value.bool false), (Value.int .i64 (0 : Int))]) h2))) →
          (J1 z2 z3 z4 b2 z5 h2)))))))) →
        (cond (decide (za1 < (16 : Int)))
          (((0 : Int) ≤ za1) ∧
          ((za1 < (16 : Int)) ∧
          (∃ z2 : Int, (((cellH h1_1 (Addr.add (Addr.mk (Array.size h1) 0 none) ((Int.toNat za1) * 1))) = (some (Value.int .i64 z2))) ∧
          (optE sa3.a False (fun p1 => (((0 : Int) ≤ (0 : Int)) ∧
          (((0 : Int) < (sa3.n : Int)) ∧
          (∃ z3 : Int, (((cellH h1_1 (Addr.add p1 0)) = (some (Value.int .i64 z3))) ∧
          (HC P F_prim_Arith #[(Value.int .i64 z2), (Value.int .i64 za2), (Value.int .i64 z3)] h1_1
            (fun v2 h2 => (∃ z4 : Int, (∃ b2 : Bool, ((v2 = (Value.tuple #[(Value.int .i64 z4), (Value.bool b2)])) ∧
            (R (Value.tuple #[(Value.int .i64 z4), (Value.bool b2), (Value.int .i64 (0 : Int))]) h2))))))))))))))))
          (∀ h2 : Heap, ((h2 = (Array.push h1_1 (Obj.cells #[(Value.int .i64 (21 : Int)), (Value.int .i64 (22 : Int)), (Value.int .i64 (29 : Int))] T_int (0, 0)))) →
          (HC P F_slices_Contains_int_int #[(Value.slice (some (Addr.mk (Array.size h1_1) 0 none)) 3 3), (Value.int .i64 za1)] h2
            (fun v2 h2_1 => (∃ b2 : Bool, ((v2 = (Value.bool b2)) ∧
            (cond b2
              (optE sa3.a False (fun p1 => (((0 : Int) ≤ (0 : Int)) ∧
              (((0 : Int) < (sa3.n : Int)) ∧
              (∃ z2 : Int, (((cellH h2_1 (Addr.add p1 0)) = (some (Value.int .i64 z2))) ∧
              (HC P F_prim_sums #[va0, (Value.int .i64 za1), (Value.int .i64 za2), (Value.int .i64 z2)] h2_1
                (fun v3 h3 => (∃ z3 : Int, (∃ z4 : Int, ((v3 = (Value.tuple #[(Value.int .i64 z3), (Value.int .i64 z4)])) ∧
                (J1 z4 z3 (0 : Int) false (0 : Int) h3))))))))))))
              (HC P F_prim_objects #[va0, (Value.int .i64 za1), (Value.int .i64 za2), (Value.slice sa3.a sa3.n sa3.c)] h2_1
                (fun v3 h3 => (∃ z2 : Int, (∃ z3 : Int, ((v3 = (Value.tuple #[(Value.int .i64 z2), (Value.int .i64 z3)])) ∧
                (J1 z3 z2 (0 : Int) false (0 : Int) h3)))))))))))))))))))))))))) :
  HC P F_prim_Do #[va0, .int .i64 za1, .int .i64 za2, .slice sa3.a sa3.n sa3.c] h R :=
  HC.of_eq (args := [va0, .int .i64 za1, .int .i64 za2, .slice sa3.a sa3.n sa3.c]) (fn := Tryd.f20) (by kernel_rfl) (by kernel_rfl) (by kernel_rfl) (by kernel_rfl) (qs := [29, 32, 35, 105, 119, 30000001]) (by kernel_rfl) H

/-- webster/prim.objects -/
theorem S_prim_objects {va0 : Value} {za1 : Int} {za2 : Int} {sa3 : Sl} {h : Heap} {R : Value → Heap → Prop} (H :
  (∃ I1 : (Int → (Sl → (Heap → Prop))), (∃ μ1 : (Int → (Sl → (Heap → Nat))), ((I1 (0 : Int) (Sl.mk none 0 0) h) ∧
  (∀ z1 : Int, (∀ s1 : Sl, (∀ h1 : Heap, ((I1 z1 s1 h1) →
  (cond (decide (z1 < (sa3.n : Int)))
    (∀ J1 : (Sl → (Heap → Prop)), ((∀ s2 : Sl, (∀ h2 : Heap, (((InI (z1 + (1 : Int))) ∧
        ((I1 (z1 + (1 : Int)) (Sl.mk s2.a s2.n s2.c) h2) ∧
        ((μ1 (z1 + (1 : Int)) (Sl.mk s2.a s2.n s2.c) h2) < (μ1 z1 s1 h1)))) →
      (J1 s2 h2)))) →
    (optE sa3.a False (fun p1 => (((0 : Int) ≤ z1) ∧
    ((z1 < (sa3.n : Int)) ∧
    (∃ z2 : Int, (((cellH h1 (Addr.add p1 ((Int.toNat z1) * 1))) = (some (Value.int .i64 z2))) ∧
    (HC P F_word_Number #[(Value.int .i64 z2)] h1
      (fun v1 h1_1 => (∃ z3 : Int, (∃ b1 : Bool, ((v1 = (Value.tuple #[(Value.int .i64 z3), (Value.bool b1)])) ∧
      (∀ J2 : (Int → (Heap → Prop)), ((∀ z4 : Int, (∀ h2 : Heap, ((∀ h3 : Heap, ((h3 = (Array.push h2 (Obj.cells #[(Value.int .i64 z4)] T_int (0, 0)))) →
          ((AppOK h3 1 s1.a s1.n s1.c (some (Addr.mk (Array.size h2) 0 none)) 1 8) ∧
          ((1 = 1) ∧
          (∀ s2 : Sl, (∀ h4 : Heap, ((Appended h3 1 [(Value.int .i64 (0 : Int))] T_int s1.a s1.n s1.c (some (Addr.mk (Array.size h2) 0 none)) 1 s2 h4) →
          (J1 (Sl.mk s2.a s2.n s2.c) h4)))))))) →
        (J2 z4 h2)))) →
      (cond (!b1)
        (J2 (-1 : Int) h1_1)
        (J2 z3 h1_1)))))))))))))))))
    (∀ J1 : (Int → (Int → (Heap → Prop))), ((∀ z2 : Int, (∀ z3 : Int, (∀ h2 : Heap, ((HC P F_kit_ClassOf #[va0, (Value.int .i64 za2)] h2
          (fun v1 h1_1 => (∃ z4 : Int, (∃ z5 : Int, ((v1 = (Value.tuple #[(Value.int .i64 z4), (Value.int .i64 z5)])) ∧
          (R (Value.tuple #[(Value.int .i64 z4), (Value.int .i64 z5)]) h1_1)))))) →
      (J1 z2 z3 h2))))) →
    (cond (za1 == (60 : Int))
      (optE sa3.a False (fun p1 => (((0 : Int) ≤ (0 : Int)) ∧
      (((0 : Int) < (sa3.n : Int)) ∧
      (∃ z2 : Int, (((cellH h1 (Addr.add p1 0)) = (some (Value.int .i64 z2))) ∧
      (HC P F_prim_get #[va0, (Value.int .i64 za2), (Value.int .i64 z2)] h1
        (fun v1 h1_1 => (∃ z3 : Int, (∃ z4 : Int, ((v1 = (Value.tuple #[(Value.int .i64 z3), (Value.int .i64 z4)])) ∧
        (R (Value.tuple #[(Value.int .i64 z3), (Value.int .i64 z4)]) h1_1))))))))))))
      (cond (za1 == (61 : Int))
        (optE sa3.a False (fun p1 => (((0 : Int) ≤ (0 : Int)) ∧
        (((0 : Int) < (sa3.n : Int)) ∧
        (∃ z2 : Int, (((cellH h1 (Addr.add p1 0)) = (some (Value.int .i64 z2))) ∧
        (optE sa3.a False (fun p2 => (((0 : Int) ≤ (1 : Int)) ∧
        (((1 : Int) < (sa3.n : Int)) ∧
        (∃ z3 : Int, (((cellH h1 (Addr.add p2 1)) = (some (Value.int .i64 z3))) ∧
        (HC P F_prim_put #[va0, (Value.int .i64 za2), (Value.int .i64 z2), (Value.int .i64 z3)] h1
          (fun v1 h1_1 => (∃ z4 : Int, (∃ z5 : Int, ((v1 = (Value.tuple #[(Value.int .i64 z4), (Value.int .i64 z5)])) ∧
          (R (Value.tuple #[(Value.int .i64 z4), (Value.int .i64 z5)]) h1_1))))))))))))))))))
        (cond (za1 == (62 : Int))
          (HC P F_prim_behind #[va0, (Value.int .i64 za2)] h1
            (fun v1 h1_1 => (∃ z2 : Int, (∃ z3 : Int, (∃ z4 : Int, (∃ z5 : Int, ((v1 = (Value.tuple #[(Value.int .i64 z2), (Value.int .i64 z3), (Value.int .i64 z4), (Value.int .i64 z5)])) ∧
            (HC P F_prim_small #[(Value.int .i64 z3), (Value.int .i64 z5)] h1_1
              (fun v2 h2 => (∃ z6 : Int, (∃ z7 : Int, ((v2 = (Value.tuple #[(Value.int .i64 z6), (Value.int .i64 z7)])) ∧
              (R (Value.tuple #[(Value.int .i64 z6), (Value.int .i64 z7)]) h2)))))))))))))
          (cond (za1 == (70 : Int))
            (HC P F_kit_Instance #[va0, (Value.int .i64 za2), (Value.slice s1.a s1.n s1.c)] h1
              (fun v1 h1_1 => (∃ z2 : Int, (∃ z3 : Int, ((v1 = (Value.tuple #[(Value.int .i64 z2), (Value.int .i64 z3)])) ∧
              (R (Value.tuple #[(Value.int .i64 z2), (Value.int .i64 z3)]) h1_1))))))
            (cond (za1 == (71 : Int))
              (HC P F_kit_Instance #[va0, (Value.int .i64 za2), (Value.slice s1.a s1.n s1.c)] h1
                (fun v1 h1_1 => (∃ z2 : Int, (∃ z3 : Int, ((v1 = (Value.tuple #[(Value.int .i64 z2), (Value.int .i64 z3)])) ∧
                (R (Value.tuple #[(Value.int .i64 z2), (Value.int .i64 z3)]) h1_1))))))
              (cond (za1 == (72 : Int))
                (optE sa3.a False (fun p1 => (((0 : Int) ≤ (0 : Int)) ∧
                (((0 : Int) < (sa3.n : Int)) ∧
                (∃ z2 : Int, (((cellH h1 (Addr.add p1 0)) = (some (Value.int .i64 z2))) ∧
                ((HN P (Value.func (Fn.method "Become") #[va0] #[])) ∧
                (HI P va0 "Become" #[(Value.int .i64 za2), (Value.int .i64 z2)] h1
                  (fun v1 h1_1 => (∃ z3 : Int, ((v1 = (Value.int .i64 z3)) ∧
                  (R (Value.tuple #[(Value.int .i64 za2), (Value.int .i64 z3)]) h1_1))))))))))))
                (cond (za1 == (73 : Int))
                  (optE s1.a False (fun p1 => (((0 : Int) ≤ (0 : Int)) ∧
                  (((0 : Int) < (s1.n : Int)) ∧
                  (∃ z2 : Int, (((cellH h1 (Addr.add p1 0)) = (some (Value.int .i64 z2))) ∧
                  ((InI (z2 - (1 : Int))) ∧
                  ((HN P (Value.func (Fn.method "Fetch") #[va0] #[])) ∧
                  (HI P va0 "Fetch" #[(Value.int .i64 za2), (Value.int .i64 (z2 - (1 : Int)))] h1
                    (fun v1 h1_1 => (∃ z3 : Int, (∃ z4 : Int, ((v1 = (Value.tuple #[(Value.int .i64 z3), (Value.int .i64 z4)])) ∧
                    (R (Value.tuple #[(Value.int .i64 z3), (Value.int .i64 z4)]) h1_1))))))))))))))
                  (cond (za1 == (74 : Int))
                    (optE sa3.a False (fun p1 => (((0 : Int) ≤ (1 : Int)) ∧
                    (((1 : Int) < (sa3.n : Int)) ∧
                    (∃ z2 : Int, (((cellH h1 (Addr.add p1 1)) = (some (Value.int .i64 z2))) ∧
                    (optE s1.a False (fun p2 => (((0 : Int) ≤ (0 : Int)) ∧
                    (((0 : Int) < (s1.n : Int)) ∧
                    (∃ z3 : Int, (((cellH h1 (Addr.add p2 0)) = (some (Value.int .i64 z3))) ∧
                    ((InI (z3 - (1 : Int))) ∧
                    (optE sa3.a False (fun p3 => (((0 : Int) ≤ (1 : Int)) ∧
                    (((1 : Int) < (sa3.n : Int)) ∧
                    (∃ z4 : Int, (((cellH h1 (Addr.add p3 1)) = (some (Value.int .i64 z4))) ∧
                    ((HN P (Value.func (Fn.method "Set") #[va0] #[])) ∧
                    (HI P va0 "Set" #[(Value.int .i64 za2), (Value.int .i64 (z3 - (1 : Int))), (Value.int .i64 z4)] h1
                      (fun v1 h1_1 => (∃ z5 : Int, ((v1 = (Value.int .i64 z5)) ∧
                      ((∃ z6 : Int, (((cellH h1_1 (Addr.add p1 1)) = (some (Value.int .i64 z6))) ∧
                       ((Value.int .i64 z6) = (Value.int .i64 z2)))) ∧
                      (R (Value.tuple #[(Value.int .i64 z2), (Value.int .i64 z5)]) h1_1))))))))))))))))))))))))))
                    (cond (za1 == (75 : Int))
                      (HC P F_word_Named #[(Value.int .i64 za2)] h1
                        (fun v1 h1_1 => (∃ z2 : Int, (∃ b1 : Bool, ((v1 = (Value.tuple #[(Value.int .i64 z2), (Value.bool b1)])) ∧
                        (cond (!b1)
                          (R (Value.tuple #[(Value.int .i64 (0 : Int)), (Value.int .i64 (4 : Int))]) h1_1)
                          (HC P F_word_Small #[(Value.int .i64 z2)] h1_1
                            (fun v2 h2 => (∃ z3 : Int, (∃ z4 : Int, ((v2 = (Value.tuple #[(Value.int .i64 z3), (Value.int .i64 z4)])) ∧
                            (R (Value.tuple #[(Value.int .i64 z3), (Value.int .i64 z4)]) h2))))))))))))
                      (cond (za1 == (76 : Int))
                        (HI P va0 "Next" #[(Value.int .i64 za2)] h1
                          (fun v1 h1_1 => (∃ z2 : Int, (∃ b1 : Bool, ((v1 = (Value.tuple #[(Value.int .i64 z2), (Value.bool b1)])) ∧
                          (cond b1
                            (R (Value.tuple #[(Value.int .i64 z2), (Value.int .i64 (0 : Int))]) h1_1)
                            (R (Value.tuple #[(Value.int .i64 (2 : Int)), (Value.int .i64 (0 : Int))]) h1_1)))))))
                        (cond (za1 == (110 : Int))
                          (optE sa3.a False (fun p1 => (((0 : Int) ≤ (0 : Int)) ∧
                          (((0 : Int) < (sa3.n : Int)) ∧
                          (∃ z2 : Int, (((cellH h1 (Addr.add p1 0)) = (some (Value.int .i64 z2))) ∧
                          (HC P F_prim_truth #[(Value.bool (za2 == z2))] h1
                            (fun v1 h1_1 => (∃ z3 : Int, ((v1 = (Value.int .i64 z3)) ∧
                            (R (Value.tuple #[(Value.int .i64 z3), (Value.int .i64 (0 : Int))]) h1_1)))))))))))
                          (J1 (0 : Int) (0 : Int) h1))))))))))))))))))))))) :
  HC P F_prim_objects #[va0, .int .i64 za1, .int .i64 za2, .slice sa3.a sa3.n sa3.c] h R :=
  HC.of_eq (args := [va0, .int .i64 za1, .int .i64 za2, .slice sa3.a sa3.n sa3.c]) (fn := Tryd.f47) (by kernel_rfl) (by kernel_rfl) (by kernel_rfl) (by kernel_rfl) (qs := [29, 32, 35, 105, 119, 30100020, 60100036, 30100012]) (by kernel_rfl) H

/-- webster/websterref01.Named -/
theorem S_websterref01_Named {za0 : Int} {h : Heap} {R : Value → Heap → Prop} (H :
  (((2 : Int) ≠ (0 : Int)) ∧
  (cond ((Int.tmod za0 (2 : Int)) != (0 : Int))
    (R (Value.tuple #[(Value.int .i64 (0 : Int)), (Value.bool false)]) h)
    (cond (decide (za0 < (2 : Int)))
      (R (Value.tuple #[(Value.int .i64 (0 : Int)), (Value.bool false)]) h)
      (cond (decide ((2147483646 : Int) < za0))
        (R (Value.tuple #[(Value.int .i64 (0 : Int)), (Value.bool false)]) h)
        (((2 : Int) ≠ (0 : Int)) ∧
        ((InI (Int.tdiv za0 (2 : Int))) ∧
        (R (Value.tuple #[(Value.int .i64 (Int.tdiv za0 (2 : Int))), (Value.bool true)]) h)))))))) :
  HC P F_websterref01_Named #[.int .i64 za0] h R :=
  HC.of_eq (args := [.int .i64 za0]) (fn := Tryd.f86) (by kernel_rfl) (by kernel_rfl) (by kernel_rfl) (by kernel_rfl) (qs := [29, 32, 35, 105, 119]) (by kernel_rfl) H

/-- webster/large.Of -/
theorem S_large_Of {za0 : Int} {h : Heap} {R : Value → Heap → Prop} (H :
  (cond (decide (za0 < (0 : Int)))
    (R (Value.tuple #[(Value.slice none 0 0), (Value.int .i64 (2 : Int))]) h)
    (∃ I1 : (Sl → (Int → (Heap → Prop))), (∃ μ1 : (Sl → (Int → (Heap → Nat))), ((I1 (Sl.mk none 0 0) za0 h) ∧
    (∀ s1 : Sl, (∀ z1 : Int, (∀ h1 : Heap, ((I1 s1 z1 h1) →
    (cond (decide ((0 : Int) < z1))
      (∀ h2 : Heap, ((h2 = (Array.push h1 (Obj.cells #[(Value.int .u8 (IntKind.wrap (Go.IntKind.u8) z1))] T_uint8 (0, 0)))) →
      ((AppOK h2 1 s1.a s1.n s1.c (some (Addr.mk (Array.size h1) 0 none)) 1 1) ∧
      ((1 = 1) ∧
      (∀ s2 : Sl, (∀ h3 : Heap, ((Appended h2 1 [(Value.int .u8 (0 : Int))] T_uint8 s1.a s1.n s1.c (some (Addr.mk (Array.size h1) 0 none)) 1 s2 h3) →
      (((0 : Int) ≤ (8 : Int)) ∧
      (((8 : Int) < (64 : Int)) ∧
      ((I1 (Sl.mk s2.a s2.n s2.c) (z1 / (256 : Int)) h3) ∧
      ((μ1 (Sl.mk s2.a s2.n s2.c) (z1 / (256 : Int)) h3) < (μ1 s1 z1 h1))))))))))))
      (R (Value.tuple #[(Value.slice s1.a s1.n s1.c), (Value.int .i64 (0 : Int))]) h1))))))))))) :
  HC P F_large_Of #[.int .i64 za0] h R :=
  HC.of_eq (args := [.int .i64 za0]) (fn := Tryd.f96) (by kernel_rfl) (by kernel_rfl) (by kernel_rfl) (by kernel_rfl) (qs := [29, 32, 35, 105, 119]) (by kernel_rfl) H

/-- webster/large.digit -/
theorem S_large_digit {sa0 : Sl} {za1 : Int} {h : Heap} {R : Value → Heap → Prop} (H :
  (cond (decide (za1 < (sa0.n : Int)))
    (optE sa0.a False (fun p1 => (((0 : Int) ≤ za1) ∧
    ((za1 < (sa0.n : Int)) ∧
    (∃ z1 : Int, (((cellH h (Addr.add p1 ((Int.toNat za1) * 1))) = (some (Value.int .u8 z1))) ∧
    ((InI z1) ∧
    (R (Value.int .i64 z1) h))))))))
    (R (Value.int .i64 (0 : Int)) h))) :
  HC P F_large_digit #[.slice sa0.a sa0.n sa0.c, .int .i64 za1] h R :=
  HC.of_eq (args := [.slice sa0.a sa0.n sa0.c, .int .i64 za1]) (fn := Tryd.f105) (by kernel_rfl) (by kernel_rfl) (by kernel_rfl) (by kernel_rfl) (qs := [29, 32, 35, 105, 119]) (by kernel_rfl) H

/-- slices.Backward[[]byte,byte] -/
theorem S_slices_Backward_byte_byte {sa0 : Sl} {h : Heap} {R : Value → Heap → Prop} (H :
  (∀ h1 : Heap, ((h1 = (Array.push h (Obj.cells #[(Value.slice sa0.a sa0.n sa0.c)] 39 (0, 0)))) →
  (R (Value.func (Fn.func F_slices_Backward_byte_byte_1) #[] #[(Value.pointer (some (Addr.mk (Array.size h) 0 none)))]) h1)))) :
  HC P F_slices_Backward_byte_byte #[.slice sa0.a sa0.n sa0.c] h R :=
  HC.of_eq (args := [.slice sa0.a sa0.n sa0.c]) (fn := Tryd.f106) (by kernel_rfl) (by kernel_rfl) (by kernel_rfl) (by kernel_rfl) (qs := [29, 32, 35, 105, 119]) (by kernel_rfl) H

/-- slices.Backward[[]byte,byte]$1 -/
theorem S_slices_Backward_byte_byte_1 {va0 : Value} {vc0 : Value} {h : Heap} {R : Value → Heap → Prop} (H :
  (asP vc0 (fun a1 => (optE a1 False (fun p1 => (∃ s1 : Sl, (((cellH h p1) = (some (Value.slice s1.a s1.n s1.c))) ∧
  ((InI ((s1.n : Int) - (1 : Int))) ∧
  (∃ I1 : (Int → (Heap → Prop)), (∃ μ1 : (Int → (Heap → Nat)), ((I1 ((s1.n : Int) - (1 : Int)) h) ∧
  (∀ z1 : Int, (∀ h1 : Heap, ((I1 z1 h1) →
  (cond (decide ((0 : Int) ≤ z1))
    (asP vc0 (fun a2 => (optE a2 False (fun p2 => (∃ s2 : Sl, (((cellH h1 p2) = (some (Value.slice s2.a s2.n s2.c))) ∧
    (optE s2.a False (fun p3 => (((0 : Int) ≤ z1) ∧
    ((z1 < (s2.n : Int)) ∧
    (∃ z2 : Int, (((cellH h1 (Addr.add p3 ((Int.toNat z1) * 1))) = (some (Value.int .u8 z2))) ∧
    (HV P va0 #[(Value.int .i64 z1), (Value.int .u8 z2)] h1
      (fun v1 h1_1 => (∃ b1 : Bool, ((v1 = (Value.bool b1)) ∧
      (cond (!b1)
        (R (Value.tuple #[]) h1_1)
        ((InI (z1 - (1 : Int))) ∧
        ((I1 (z1 - (1 : Int)) h1_1) ∧
        ((μ1 (z1 - (1 : Int)) h1_1) < (μ1 z1 h1)))))))))))))))))))))
    (R (Value.tuple #[]) h1)))))))))))))))) :
  HC P F_slices_Backward_byte_byte_1 #[va0, vc0] h R :=
  HC.of_eq (args := [va0, vc0]) (fn := Tryd.f126) (by kernel_rfl) (by kernel_rfl) (by kernel_rfl) (by kernel_rfl) (qs := [29, 32, 35, 105, 119]) (by kernel_rfl) H

/-- (*webster/flat.Memory).New -/
theorem S_flat_Memory_New {aa0 : Option Addr} {za1 : Int} {za2 : Int} {za3 : Int} {h : Heap} {R : Value → Heap → Prop} (H :
  (HC P F_flat_Blank #[(Value.int .i64 za1), (Value.int .i64 za2), (Value.int .i64 za3)] h
    (fun v1 h1 => (∃ z1 : Int, (∃ z2 : Int, (∃ s1 : Sl, (∃ s2 : Sl, (∃ b1 : Bool, ((v1 = (Value.tuple #[(Value.agg #[(Value.int .i64 z1), (Value.int .i64 z2), (Value.slice s1.a s1.n s1.c), (Value.slice s2.a s2.n s2.c)]), (Value.bool b1)])) ∧
    (∀ h1_1 : Heap, ((h1_1 = (Array.push h1 (Obj.cells #[(Value.int .i64 (0 : Int)), (Value.int .i64 (0 : Int)), (Value.slice none 0 0), (Value.slice none 0 0)] T_api_Obj (0, 0)))) →
    ((StOK h1_1 (Addr.mk (Array.size h1) 0 none) 4) ∧
    (∀ h2 : Heap, ((h2 = (putsH h1_1 (Addr.mk (Array.size h1) 0 none) [(Value.int .i64 z1), (Value.int .i64 z2), (Value.slice s1.a s1.n s1.c), (Value.slice s2.a s2.n s2.c)] 0)) →
    (cond (Option.isNone aa0)
      (R (Value.tuple #[(Value.int .i64 (0 : Int)), (Value.int .i64 (1 : Int))]) h2)
      (cond (!b1)
        (R (Value.tuple #[(Value.int .i64 (0 : Int)), (Value.int .i64 (2 : Int))]) h2)
        (optE aa0 False (fun p1 => (∃ z3 : Int, (((cellH h2 (Addr.add p1 1)) = (some (Value.int .i64 z3))) ∧
        ((InI (z3 + (1 : Int))) ∧
        (optE aa0 False (fun p2 => ((StOK h2 (Addr.add p2 1) 1) ∧
        (∀ h3 : Heap, ((h3 = (putH h2 (Addr.add p2 1) (Value.int .i64 (z3 + (1 : Int))))) →
        (optE aa0 False (fun p3 => (∃ a1 : (Option Nat), (((cellH h3 (Addr.add p3 0)) = (some (Value.map a1))) ∧
        (optE aa0 False (fun p4 => (∃ z4 : Int, (((cellH h3 (Addr.add p4 1)) = (some (Value.int .i64 z4))) ∧
        (optE a1 False (fun r1 => (∃ h4 : (Array MapEntry), (∃ clk1 : Nat, (((h3)[r1]? = (some (Obj.map h4 clk1))) ∧
        ((IntKeys (Go.IntKind.i64) h4) ∧
        (∀ h5 : Heap, ((h5 = (Array.setIfInBounds h3 r1 (mput h4 clk1 (Value.int .i64 z4) z4 (Value.pointer (some (Addr.mk (Array.size h1) 0 none)))))) →
        (optE aa0 False (fun p5 => (∃ z5 : Int, (((cellH h5 (Addr.add p5 1)) = (some (Value.int .i64 z5))) ∧
        (HC P F_word_Oop #[(Value.int .i64 z5)] h5
          (fun v2 h2_1 => (∃ z6 : Int, ((v2 = (Value.int .i64 z6)) ∧
          (R (Value.tuple #[(Value.int .i64 z6), (Value.int .i64 (0 : Int))]) h2_1))))))))))))))))))))))))))))))))))))))))))))))))))) :
  HC P F_flat_Memory_New #[.pointer aa0, .int .i64 za1, .int .i64 za2, .int .i64 za3] h R :=
  HC.of_eq (args := [.pointer aa0, .int .i64 za1, .int .i64 za2, .int .i64 za3]) (fn := Tryd.f154) (by kernel_rfl) (by kernel_rfl) (by kernel_rfl) (by kernel_rfl) (qs := [29, 32, 35, 105, 119]) (by kernel_rfl) H

/-- (*webster/flat.Memory).Next -/
theorem S_flat_Memory_Next {aa0 : Option Addr} {za1 : Int} {h : Heap} {R : Value → Heap → Prop} (H :
  (cond (Option.isNone aa0)
    (R (Value.tuple #[(Value.int .i64 (0 : Int)), (Value.bool false)]) h)
    (HC P F_word_Named #[(Value.int .i64 za1)] h
      (fun v1 h1 => (∃ z1 : Int, (∃ b1 : Bool, ((v1 = (Value.tuple #[(Value.int .i64 z1), (Value.bool b1)])) ∧
      (optE aa0 False (fun p1 => (∃ a1 : (Option Nat), (((cellH h1 (Addr.add p1 0)) = (some (Value.map a1))) ∧
      (optE a1 False (fun m1 => (∃ h1_1 : (Array MapEntry), (∃ clk1 : Nat, (((h1)[m1]? = (some (Obj.map h1_1 clk1))) ∧
      (∀ h2 : Heap, ((h2 = (Array.push h1 (Obj.mapIter (some m1) clk1 #[] clk1))) →
      (∃ I1 : (Int → (Heap → Prop)), (∃ μ1 : (Int → (Heap → Nat)), ((I1 (0 : Int) h2) ∧
      (∀ z2 : Int, (∀ h3 : Heap, ((I1 z2 h3) →
      (((Addr.off (Addr.mk (Array.size h1) 0 none)) = 0) ∧
      ((NextOK h3 (Addr.block (Addr.mk (Array.size h1) 0 none))) ∧
      ((∀ v2 : Value, (∀ v3 : Value, (∀ h4 : Heap, ((NextOne h3 (Addr.block (Addr.mk (Array.size h1) 0 none)) v2 v3 h4) →
       (((Addr.off (Addr.mk (Array.size h1) 0 none)) = 0) ∧
       (∃ v4 : Value, (∃ v5 : Value, ((EntryOf h4 (Addr.block (Addr.mk (Array.size h1) 0 none)) v4 v5) ∧
       (asI v4 (fun j1 z3 => (if (j1 = (Go.IntKind.i64)) then
         (cond (decide (z1 < z3))
           (cond (z2 == (0 : Int))
             ((I1 z3 h4) ∧
             ((μ1 z3 h4) < (μ1 z2 h3)))
             (cond (decide (z3 < z2))
               ((I1 z3 h4) ∧
               ((μ1 z3 h4) < (μ1 z2 h3)))
               ((I1 z2 h4) ∧
               ((μ1 z2 h4) < (μ1 z2 h3)))))
           ((I1 z2 h4) ∧
           ((μ1 z2 h4) < (μ1 z2 h3)))) else
         False))))))))))) ∧
      ((NextEnd h3 (Addr.block (Addr.mk (Array.size h1) 0 none))) →
      (HC P F_word_Oop #[(Value.int .i64 z2)] h3
        (fun v2 h2_1 => (∃ z3 : Int, ((v2 = (Value.int .i64 z3)) ∧
        (R (Value.tuple #[(Value.int .i64 z3), (Value.bool (decide ((0 : Int) < z2)))]) h2_1))))))))))))))))))))))))))))))))) :
  HC P F_flat_Memory_Next #[.pointer aa0, .int .i64 za1] h R :=
  HC.of_eq (args := [.pointer aa0, .int .i64 za1]) (fn := Tryd.f155) (by kernel_rfl) (by kernel_rfl) (by kernel_rfl) (by kernel_rfl) (qs := [29, 32, 35, 105, 119]) (by kernel_rfl) H

/-- (*webster/flat.Memory).Set -/
theorem S_flat_Memory_Set {aa0 : Option Addr} {za1 : Int} {za2 : Int} {za3 : Int} {h : Heap} {R : Value → Heap → Prop} (H :
  (HC P F_flat_Memory_place #[(Value.pointer aa0), (Value.int .i64 za1), (Value.int .i64 (1 : Int)), (Value.int .i64 za2)] h
    (fun v1 h1 => (∃ a1 : (Option Addr), (∃ z1 : Int, ((v1 = (Value.tuple #[(Value.pointer a1), (Value.int .i64 z1)])) ∧
    (∀ J1 : (Int → (Heap → Prop)), ((∀ z2 : Int, (∀ h1_1 : Heap, ((∀ J2 : (Heap → Prop), ((∀ h2 : Heap, ((R (Value.int .i64 z2) h2) →
          (J2 h2))) →
        (cond (z2 == (0 : Int))
          (optE a1 False (fun p1 => (∃ s1 : Sl, (((cellH h1_1 (Addr.add p1 2)) = (some (Value.slice s1.a s1.n s1.c))) ∧
          (optE s1.a False (fun p2 => (((0 : Int) ≤ za2) ∧
          ((za2 < (s1.n : Int)) ∧
          ((StOK h1_1 (Addr.add p2 ((Int.toNat za2) * 1)) 1) ∧
          (∀ h2 : Heap, ((h2 = (putH h1_1 (Addr.add p2 ((Int.toNat za2) * 1)) (Value.int .i64 za3))) →
          (J2 h2))))))))))))
          (J2 h1_1)))) →
      (J1 z2 h1_1)))) →
    (cond (z1 == (0 : Int))
      (HC P F_flat_Ref #[(Value.int .i64 za3)] h1
        (fun v2 h2 => (∃ b1 : Bool, ((v2 = (Value.bool b1)) ∧
        (cond (!b1)
          (J1 (2 : Int) h2)
          (J1 z1 h2))))))
      (J1 z1 h1)))))))))) :
  HC P F_flat_Memory_Set #[.pointer aa0, .int .i64 za1, .int .i64 za2, .int .i64 za3] h R :=
  HC.of_eq (args := [.pointer aa0, .int .i64 za1, .int .i64 za2, .int .i64 za3]) (fn := Tryd.f157) (by kernel_rfl) (by kernel_rfl) (by kernel_rfl) (by kernel_rfl) (qs := [29, 32, 35, 105, 119, 30100004, 30100008]) (by kernel_rfl) H

/-- webster/flat.Load -/
theorem S_flat_Load {va0 : Value} {sa1 : Sl} {h : Heap} {R : Value → Heap → Prop} (H :
  (HI P va0 "Made" #[] h
    (fun v1 h1 => (∃ z1 : Int, ((v1 = (Value.int .i64 z1)) ∧
    (cond (decide ((0 : Int) < z1))
      (R (Value.int .i64 (2 : Int)) h1)
      (HC P F_slices_ContainsFunc_api_Obj_api_Obj #[(Value.slice sa1.a sa1.n sa1.c), (Value.func (Fn.func F_flat_Load_1) #[] #[])] h1
        (fun v2 h2 => (∃ b1 : Bool, ((v2 = (Value.bool b1)) ∧
        (cond b1
          (R (Value.int .i64 (2 : Int)) h2)
          (∃ I1 : (Int → (Int → (Heap → Prop))), (∃ μ1 : (Int → (Int → (Heap → Nat))), ((I1 (0 : Int) (0 : Int) h2) ∧
          (∀ z2 : Int, (∀ z3 : Int, (∀ h1_1 : Heap, ((I1 z2 z3 h1_1) →
          (cond (decide (z2 < (sa1.n : Int)))
            (optE sa1.a False (fun p1 => (((0 : Int) ≤ z2) ∧
            ((z2 < (sa1.n : Int)) ∧
            (∃ z4 : Int, (((cellH h1_1 (Addr.add (Addr.add p1 ((Int.toNat z2) * 4)) 0)) = (some (Value.int .i64 z4))) ∧
            (∃ z5 : Int, (((cellH h1_1 (Addr.add (Addr.add p1 ((Int.toNat z2) * 4)) 1)) = (some (Value.int .i64 z5))) ∧
            (∃ s1 : Sl, (((cellH h1_1 (Addr.add (Addr.add p1 ((Int.toNat z2) * 4)) 2)) = (some (Value.slice s1.a s1.n s1.c))) ∧
            (∃ s2 : Sl, (((cellH h1_1 (Addr.add (Addr.add p1 ((Int.toNat z2) * 4)) 3)) = (some (Value.slice s2.a s2.n s2.c))) ∧
            (∀ h2_1 : Heap, ((h2_1 = (Array.push h1_1 (Obj.cells #[(Value.int .i64 (0 : Int)), (Value.int .i64 (0 : Int)), (Value.slice none 0 0), (Value.slice none 0 0)] T_api_Obj (0, 0)))) →
            ((StOK h2_1 (Addr.mk (Array.size h1_1) 0 none) 4) ∧
            (∀ h3 : Heap, ((h3 = (putsH h2_1 (Addr.mk (Array.size h1_1) 0 none) [(Value.int .i64 z4), (Value.int .i64 z5), (Value.slice s1.a s1.n s1.c), (Value.slice s2.a s2.n s2.c)] 0)) →
            (∃ z6 : Int, (((cellH h3 (Addr.add (Addr.mk (Array.size h1_1) 0 none) 0)) = (some (Value.int .i64 z6))) ∧
            (∃ z7 : Int, (((cellH h3 (Addr.add (Addr.mk (Array.size h1_1) 0 none) 1)) = (some (Value.int .i64 z7))) ∧
            (∃ z8 : Int, (((cellH h3 (Addr.add (Addr.mk (Array.size h1_1) 0 none) 0)) = (some (Value.int .i64 z8))) ∧
            (∃ z9 : Int, (((cellH h3 (Addr.add (Addr.mk (Array.size h1_1) 0 none) 1)) = (some (Value.int .i64 z9))) ∧
            (∃ s3 : Sl, (((cellH h3 (Addr.add (Addr.mk (Array.size h1_1) 0 none) 2)) = (some (Value.slice s3.a s3.n s3.c))) ∧
            (∃ s4 : Sl, (((cellH h3 (Addr.add (Addr.mk (Array.size h1_1) 0 none) 3)) = (some (Value.slice s4.a s4.n s4.c))) ∧
            ((HN P (Value.func (Fn.method "New") #[va0] #[])) ∧
            (HC P F_wide_Size #[(Value.agg #[(Value.int .i64 z8), (Value.int .i64 z9), (Value.slice s3.a s3.n s3.c), (Value.slice s4.a s4.n s4.c)])] h3
              (fun v3 h3_1 => (∃ z10 : Int, ((v3 = (Value.int .i64 z10)) ∧
              ((∃ z11 : Int, (((cellH h3_1 (Addr.add (Addr.mk (Array.size h1_1) 0 none) 0)) = (some (Value.int .i64 z11))) ∧
               ((Value.int .i64 z11) = (Value.int .i64 z6)))) ∧
              ((∃ z11 : Int, (((cellH h3_1 (Addr.add (Addr.mk (Array.size h1_1) 0 none) 1)) = (some (Value.int .i64 z11))) ∧
               ((Value.int .i64 z11) = (Value.int .i64 z7)))) ∧
              (HI P va0 "New" #[(Value.int .i64 z6), (Value.int .i64 z7), (Value.int .i64 z10)] h3_1
                (fun v4 h4 => (∃ z11 : Int, (∃ z12 : Int, ((v4 = (Value.tuple #[(Value.int .i64 z11), (Value.int .i64 z12)])) ∧
                (∀ J1 : (Int → (Heap → Prop)), ((∀ z13 : Int, (∀ h4_1 : Heap, ((∀ J2 : (Int → (Heap → Prop)), ((∀ z14 : Int, (∀ h5 : Heap, ((cond (z14 != (0 : Int))
                          (R (Value.int .i64 z14) h5)
                          ((InI (z2 + (1 : Int))) ∧
                          ((I1 (z2 + (1 : Int)) z3 h5) ∧
                          ((μ1 (z2 + (1 : Int)) z3 h5) < (μ1 z2 z3 h1_1))))) →
                      (J2 z14 h5)))) →
                    (∃ I2 : (Int → (Int → (Heap → Prop))), (∃ μ2 : (Int → (Int → (Heap → Nat))), ((I2 (0 : Int) z13 h4_1) ∧
                    (∀ z14 : Int, (∀ z15 : Int, (∀ h5 : Heap, ((I2 z14 z15 h5) →
                    (∃ s5 : Sl, (((cellH h5 (Addr.add (Addr.mk (Array.size h1_1) 0 none) 3)) = (some (Value.slice s5.a s5.n s5.c))) ∧
                    (cond (decide (z14 < (s5.n : Int)))
                      (cond (z15 == (0 : Int))
                        (∃ s6 : Sl, (((cellH h5 (Addr.add (Addr.mk (Array.size h1_1) 0 none) 3)) = (some (Value.slice s6.a s6.n s6.c))) ∧
                        (optE s6.a False (fun p2 => (((0 : Int) ≤ z14) ∧
                        ((z14 < (s6.n : Int)) ∧
                        (∃ z16 : Int, (((cellH h5 (Addr.add p2 ((Int.toNat z14) * 1))) = (some (Value.int .u8 z16))) ∧
                        ((InI z16) ∧
                        ((HN P (Value.func (Fn.method "SetByte") #[va0] #[])) ∧
                        (HI P va0 "SetByte" #[(Value.int .i64 z11), (Value.int .i64 z14), (Value.int .i64 z16)] h5
                          (fun v5 h5_1 => (∃ z17 : Int, ((v5 = (Value.int .i64 z17)) ∧
                          ((InI (z14 + (1 : Int))) ∧
                          ((I2 (z14 + (1 : Int)) z17 h5_1) ∧
                          ((μ2 (z14 + (1 : Int)) z17 h5_1) < (μ2 z14 z15 h5))))))))))))))))))
                        (J2 z15 h5))
                      (J2 z15 h5))))))))))))) →
                  (J1 z13 h4_1)))) →
                (∃ I2 : (Int → (Int → (Heap → Prop))), (∃ μ2 : (Int → (Int → (Heap → Nat))), ((I2 (0 : Int) z12 h4) ∧
                (∀ z13 : Int, (∀ z14 : Int, (∀ h4_1 : Heap, ((I2 z13 z14 h4_1) →
                (∃ s5 : Sl, (((cellH h4_1 (Addr.add (Addr.mk (Array.size h1_1) 0 none) 2)) = (some (Value.slice s5.a s5.n s5.c))) ∧
                (cond (decide (z13 < (s5.n : Int)))
                  (cond (z14 == (0 : Int))
                    (∃ s6 : Sl, (((cellH h4_1 (Addr.add (Addr.mk (Array.size h1_1) 0 none) 2)) = (some (Value.slice s6.a s6.n s6.c))) ∧
                    (optE s6.a False (fun p2 => (((0 : Int) ≤ z13) ∧
                    ((z13 < (s6.n : Int)) ∧
                    (∃ z15 : Int, (((cellH h4_1 (Addr.add p2 ((Int.toNat z13) * 1))) = (some (Value.int .i64 z15))) ∧
                    ((HN P (Value.func (Fn.method "Set") #[va0] #[])) ∧
                    (HI P va0 "Set" #[(Value.int .i64 z11), (Value.int .i64 z13), (Value.int .i64 z15)] h4_1
                      (fun v5 h5 => (∃ z16 : Int, ((v5 = (Value.int .i64 z16)) ∧
                      ((InI (z13 + (1 : Int))) ∧
                      ((I2 (z13 + (1 : Int)) z16 h5) ∧
                      ((μ2 (z13 + (1 : Int)) z16 h5) < (μ2 z13 z14 h4_1)))))))))))))))))
                    (J1 z14 h4_1))
                  (J1 z14 h4_1))))))))))))))))))))))))))))))))))))))))))))))))))))))
            (R (Value.int .i64 (0 : Int)) h1_1)))))))))))))))))))) :
  HC P F_flat_Load #[va0, .slice sa1.a sa1.n sa1.c] h R :=
  HC.of_eq (args := [va0, .slice sa1.a sa1.n sa1.c]) (fn := Tryd.f17) (by kernel_rfl) (by kernel_rfl) (by kernel_rfl) (by kernel_rfl) (qs := [29, 32, 35, 105, 119, 30100014, 30100022]) (by kernel_rfl) H

/-- webster/websterlaw16.few -/
theorem S_websterlaw16_few {sa0 : Sl} {h : Heap} {R : Value → Heap → Prop} (H :
  (∃ I1 : (Int → (Int → (Bool → (Heap → Prop)))), (∃ μ1 : (Int → (Int → (Bool → (Heap → Nat)))), ((I1 (0 : Int) (0 : Int) false h) ∧
  (∀ z1 : Int, (∀ z2 : Int, (∀ b1 : Bool, (∀ h1 : Heap, ((I1 z1 z2 b1 h1) →
  (cond (decide (z1 < (sa0.n : Int)))
    ((InI (z2 + (1 : Int))) ∧
    (optE sa0.a False (fun p1 => (((0 : Int) ≤ z1) ∧
    ((z1 < (sa0.n : Int)) ∧
    (∃ s1 : Sl, (((cellH h1 (Addr.add (Addr.add p1 ((Int.toNat z1) * 4)) 2)) = (some (Value.slice s1.a s1.n s1.c))) ∧
    (optE sa0.a False (fun p2 => (((0 : Int) ≤ z1) ∧
    ((z1 < (sa0.n : Int)) ∧
    (∃ s2 : Sl, (((cellH h1 (Addr.add (Addr.add p2 ((Int.toNat z1) * 4)) 3)) = (some (Value.slice s2.a s2.n s2.c))) ∧
    ((InI ((s1.n : Int) + (s2.n : Int))) ∧
    (((10 : Int) ≠ (0 : Int)) ∧
    ((InI (Int.tdiv ((s1.n : Int) + (s2.n : Int)) (10 : Int))) ∧
    ((InI ((z2 + (1 : Int)) + (Int.tdiv ((s1.n : Int) + (s2.n : Int)) (10 : Int)))) ∧
    (optE sa0.a False (fun p3 => (((0 : Int) ≤ z1) ∧
    ((z1 < (sa0.n : Int)) ∧
    (∃ z3 : Int, (((cellH h1 (Addr.add (Addr.add p3 ((Int.toNat z1) * 4)) 0)) = (some (Value.int .i64 z3))) ∧
    (∃ z4 : Int, (((cellH h1 (Addr.add (Addr.add p3 ((Int.toNat z1) * 4)) 1)) = (some (Value.int .i64 z4))) ∧
    (∃ s3 : Sl, (((cellH h1 (Addr.add (Addr.add p3 ((Int.toNat z1) * 4)) 2)) = (some (Value.slice s3.a s3.n s3.c))) ∧
    (∃ s4 : Sl, (((cellH h1 (Addr.add (Addr.add p3 ((Int.toNat z1) * 4)) 3)) = (some (Value.slice s4.a s4.n s4.c))) ∧
    (HC P F_websterref05_Check #[(Value.agg #[(Value.int .i64 z3), (Value.int .i64 z4), (Value.slice s3.a s3.n s3.c), (Value.slice s4.a s4.n s4.c)])] h1
      (fun v1 h1_1 => (∃ z5 : Int, ((v1 = (Value.int .i64 z5)) ∧
      (cond (z5 != (0 : Int))
        (R (Value.bool false) h1_1)
        ((InI (z1 + (1 : Int))) ∧
        ((I1 (z1 + (1 : Int)) ((z2 + (1 : Int)) + (Int.tdiv ((s1.n : Int) + (s2.n : Int)) (10 : Int))) b1 h1_1) ∧
        ((μ1 (z1 + (1 : Int)) ((z2 + (1 : Int)) + (Int.tdiv ((s1.n : Int) + (s2.n : Int)) (10 : Int))) b1 h1_1) < (μ1 z1 z2 b1 h1))))))))))))))))))))))))))))))))))))))
    (R (Value.bool (decide (z2 ≤ (200 : Int)))) h1))))))))))) :
  HC P F_websterlaw16_few #[.slice sa0.a sa0.n sa0.c] h R :=
  HC.of_eq (args := [.slice sa0.a sa0.n sa0.c]) (fn := Tryd.f22) (by kernel_rfl) (by kernel_rfl) (by kernel_rfl) (by kernel_rfl) (qs := [29, 32, 35, 105, 119]) (by kernel_rfl) H

/-- webster/word.Named -/
theorem S_word_Named {za0 : Int} {h : Heap} {R : Value → Heap → Prop} (H :
  (cond ((andI (Go.IntKind.i64) za0 (1 : Int)) == (1 : Int))
    (R (Value.tuple #[(Value.int .i64 (0 : Int)), (Value.bool false)]) h)
    (cond (decide (za0 ≤ (0 : Int)))
      (R (Value.tuple #[(Value.int .i64 (0 : Int)), (Value.bool false)]) h)
      (cond (decide ((2147483648 : Int) ≤ za0))
        (R (Value.tuple #[(Value.int .i64 (0 : Int)), (Value.bool false)]) h)
        (((2 : Int) ≠ (0 : Int)) ∧
        ((InI (Int.tdiv za0 (2 : Int))) ∧
        (R (Value.tuple #[(Value.int .i64 (Int.tdiv za0 (2 : Int))), (Value.bool true)]) h))))))) :
  HC P F_word_Named #[.int .i64 za0] h R :=
  HC.of_eq (args := [.int .i64 za0]) (fn := Tryd.f29) (by kernel_rfl) (by kernel_rfl) (by kernel_rfl) (by kernel_rfl) (qs := [29, 32, 35, 105, 119]) (by kernel_rfl) H

/-- webster/wide.Check -/
theorem S_wide_Check {za0_0 : Int} {za0_1 : Int} {sa0_2 : Sl} {sa0_3 : Sl} {h : Heap} {R : Value → Heap → Prop} (H :
  (∀ h1 : Heap, ((h1 = (Array.push h (Obj.cells #[(Value.int .i64 za0_0), (Value.int .i64 za0_1), (Value.slice sa0_2.a sa0_2.n sa0_2.c), (Value.slice sa0_3.a sa0_3.n sa0_3.c)] T_api_Obj (0, 0)))) →
  (∃ z1 : Int, (((cellH h1 (Addr.add (Addr.mk (Array.size h) 0 none) 0)) = (some (Value.int .i64 z1))) ∧
  (HC P F_word_Named #[(Value.int .i64 z1)] h1
    (fun v1 h1_1 => (∃ z2 : Int, (∃ b1 : Bool, ((v1 = (Value.tuple #[(Value.int .i64 z2), (Value.bool b1)])) ∧
    (∀ J1 : (Bool → (Heap → Prop)), ((∀ b2 : Bool, (∀ h2 : Heap, ((cond (!b2)
          (R (Value.int .i64 (2 : Int)) h2)
          (R (Value.int .i64 (0 : Int)) h2)) →
      (J1 b2 h2)))) →
    (∃ z3 : Int, (((cellH h1_1 (Addr.add (Addr.mk (Array.size h) 0 none) 1)) = (some (Value.int .i64 z3))) ∧
    (cond (z3 == (1 : Int))
      (cond b1
        (∃ s1 : Sl, (((cellH h1_1 (Addr.add (Addr.mk (Array.size h) 0 none) 3)) = (some (Value.slice s1.a s1.n s1.c))) ∧
        (cond ((s1.n : Int) == (0 : Int))
          (∃ s2 : Sl, (((cellH h1_1 (Addr.add (Addr.mk (Array.size h) 0 none) 2)) = (some (Value.slice s2.a s2.n s2.c))) ∧
          (cond (decide ((s2.n : Int) ≤ (1000 : Int)))
            (∃ s3 : Sl, (((cellH h1_1 (Addr.add (Addr.mk (Array.size h) 0 none) 2)) = (some (Value.slice s3.a s3.n s3.c))) ∧
            (HC P F_slices_ContainsFunc_int_int #[(Value.slice s3.a s3.n s3.c), (Value.func (Fn.func F_wide_Check_1) #[] #[])] h1_1
              (fun v2 h2 => (∃ b2 : Bool, ((v2 = (Value.bool b2)) ∧
              (J1 (!b2) h2)))))))
            (J1 false h1_1))))
          (J1 false h1_1))))
        (J1 false h1_1))
      (cond (z3 == (2 : Int))
        (cond b1
          (∃ s1 : Sl, (((cellH h1_1 (Addr.add (Addr.mk (Array.size h) 0 none) 2)) = (some (Value.slice s1.a s1.n s1.c))) ∧
          (cond ((s1.n : Int) == (0 : Int))
            (∃ s2 : Sl, (((cellH h1_1 (Addr.add (Addr.mk (Array.size h) 0 none) 3)) = (some (Value.slice s2.a s2.n s2.c))) ∧
            (J1 (decide ((s2.n : Int) ≤ (1000 : Int))) h1_1)))
            (J1 false h1_1))))
          (J1 false h1_1))
        (J1 false h1_1))))))))))))))))) :
  HC P F_wide_Check #[.agg #[.int .i64 za0_0, .int .i64 za0_1, .slice sa0_2.a sa0_2.n sa0_2.c, .slice sa0_3.a sa0_3.n sa0_3.c]] h R :=
  HC.of_eq (args := [.agg #[.int .i64 za0_0, .int .i64 za0_1, .slice sa0_2.a sa0_2.n sa0_2.c, .slice sa0_3.a sa0_3.n sa0_3.c]]) (fn := Tryd.f42) (by kernel_rfl) (by kernel_rfl) (by kernel_rfl) (by kernel_rfl) (qs := [29, 32, 35, 105, 119, 30100004]) (by kernel_rfl) H

/-- webster/wide.Size -/
theorem S_wide_Size {za0_0 : Int} {za0_1 : Int} {sa0_2 : Sl} {sa0_3 : Sl} {h : Heap} {R : Value → Heap → Prop} (H :
  (∀ h1 : Heap, ((h1 = (Array.push h (Obj.cells #[(Value.int .i64 za0_0), (Value.int .i64 za0_1), (Value.slice sa0_2.a sa0_2.n sa0_2.c), (Value.slice sa0_3.a sa0_3.n sa0_3.c)] T_api_Obj (0, 0)))) →
  (∃ z1 : Int, (((cellH h1 (Addr.add (Addr.mk (Array.size h) 0 none) 1)) = (some (Value.int .i64 z1))) ∧
  (cond (z1 == (1 : Int))
    (∃ s1 : Sl, (((cellH h1 (Addr.add (Addr.mk (Array.size h) 0 none) 2)) = (some (Value.slice s1.a s1.n s1.c))) ∧
    (R (Value.int .i64 (s1.n : Int)) h1)))
    (cond (z1 == (2 : Int))
      (∃ s1 : Sl, (((cellH h1 (Addr.add (Addr.mk (Array.size h) 0 none) 3)) = (some (Value.slice s1.a s1.n s1.c))) ∧
      (R (Value.int .i64 (s1.n : Int)) h1)))
      (R (Value.int .i64 (0 : Int)) h1)))))))) :
  HC P F_wide_Size #[.agg #[.int .i64 za0_0, .int .i64 za0_1, .slice sa0_2.a sa0_2.n sa0_2.c, .slice sa0_3.a sa0_3.n sa0_3.c]] h R :=
  HC.of_eq (args := [.agg #[.int .i64 za0_0, .int .i64 za0_1, .slice sa0_2.a sa0_2.n sa0_2.c, .slice sa0_3.a sa0_3.n sa0_3.c]]) (fn := Tryd.f43) (by kernel_rfl) (by kernel_rfl) (by kernel_rfl) (by kernel_rfl) (qs := [29, 32, 35, 105, 119]) (by kernel_rfl) H

/-- webster/prim.sums -/
theorem S_prim_sums {va0 : Value} {za1 : Int} {za2 : Int} {za3 : Int} {h : Heap} {R : Value → Heap → Prop} (H :
  (HC P F_prim_digits #[va0, (Value.int .i64 za2)] h
    (fun v1 h1 => (∃ s1 : Sl, (∃ b1 : Bool, ((v1 = (Value.tuple #[(Value.slice s1.a s1.n s1.c), (Value.bool b1)])) ∧
    (HC P F_prim_digits #[va0, (Value.int .i64 za3)] h1
      (fun v2 h2 => (∃ s2 : Sl, (∃ b2 : Bool, ((v2 = (Value.tuple #[(Value.slice s2.a s2.n s2.c), (Value.bool b2)])) ∧
      (cond (!b1)
        (R (Value.tuple #[(Value.int .i64 (0 : Int)), (Value.int .i64 (2 : Int))]) h2)
        (cond (!b2)
          (R (Value.tuple #[(Value.int .i64 (0 : Int)), (Value.int .i64 (2 : Int))]) h2)
          (∀ J1 : (Int → (Sl → (Heap → Prop))), ((∀ z1 : Int, (∀ s3 : Sl, (∀ h1_1 : Heap, ((cond (z1 != (0 : Int))
                (R (Value.tuple #[(Value.int .i64 (0 : Int)), (Value.int .i64 (2 : Int))]) h1_1)
                (∀ J2 : (Int → (Int → (Heap → Prop))), ((∀ z2 : Int, (∀ z3 : Int, (∀ h2_1 : Heap, ((HC P F_kit_Special #[va0, (Value.int .i64 (5 : Int))] h2_1
                      (fun v3 h3 => (∃ z4 : Int, (∃ z5 : Int, ((v3 = (Value.tuple #[(Value.int .i64 z4), (Value.int .i64 z5)])) ∧
                      (cond (z5 != (0 : Int))
                        (R (Value.tuple #[(Value.int .i64 (0 : Int)), (Value.int .i64 z5)]) h3)
                        (HC P F_prim_bytes #[va0, (Value.int .i64 z4), (Value.slice s3.a s3.n s3.c)] h3
                          (fun v4 h4 => (∃ z6 : Int, (∃ z7 : Int, ((v4 = (Value.tuple #[(Value.int .i64 z6), (Value.int .i64 z7)])) ∧
                          (R (Value.tuple #[(Value.int .i64 z6), (Value.int .i64 z7)]) h4)))))))))))) →
                  (J2 z2 z3 h2_1))))) →
                (HC P F_large_Int #[(Value.slice s3.a s3.n s3.c)] h1_1
                  (fun v3 h3 => (∃ z2 : Int, (∃ b3 : Bool, ((v3 = (Value.tuple #[(Value.int .i64 z2), (Value.bool b3)])) ∧
                  (cond b3
                    (cond (decide (z2 ≤ (1073741823 : Int)))
                      (HC P F_word_Small #[(Value.int .i64 z2)] h3
                        (fun v4 h4 => (∃ z3 : Int, (∃ z4 : Int, ((v4 = (Value.tuple #[(Value.int .i64 z3), (Value.int .i64 z4)])) ∧
                        (R (Value.tuple #[(Value.int .i64 z3), (Value.int .i64 z4)]) h4))))))
                      (J2 (0 : Int) (0 : Int) h3))
                    (J2 (0 : Int) (0 : Int) h3)))))))))) →
            (J1 z1 s3 h1_1))))) →
          (cond (za1 == (21 : Int))
            (∀ h1_1 : Heap, ((h1_1 = (Array.push h2 (Obj.cells #[(Value.slice s2.a s2.n s2.c)] 39 (0, 0)))) →
            (HC P F_large_Add #[(Value.slice s1.a s1.n s1.c), (Value.slice (some (Addr.mk (Array.size h2) 0 none)) 1 1)] h1_1
              (fun v3 h3 => (∃ s3 : Sl, (∃ z1 : Int, ((v3 = (Value.tuple #[(Value.slice s3.a s3.n s3.c), (Value.int .i64 z1)])) ∧
              (J1 z1 (Sl.mk s3.a s3.n s3.c) h3))))))))
            (cond (za1 == (22 : Int))
              (HC P F_large_Sub #[(Value.slice s1.a s1.n s1.c), (Value.slice s2.a s2.n s2.c)] h2
                (fun v3 h3 => (∃ s3 : Sl, (∃ z1 : Int, ((v3 = (Value.tuple #[(Value.slice s3.a s3.n s3.c), (Value.int .i64 z1)])) ∧
                (J1 z1 (Sl.mk s3.a s3.n s3.c) h3))))))
              (HC P F_large_Mul #[(Value.slice s1.a s1.n s1.c), (Value.slice s2.a s2.n s2.c)] h2
                (fun v3 h3 => (∃ s3 : Sl, (∃ z1 : Int, ((v3 = (Value.tuple #[(Value.slice s3.a s3.n s3.c), (Value.int .i64 z1)])) ∧
                (J1 z1 (Sl.mk s3.a s3.n s3.c) h3))))))))))))))))))))))) :
  HC P F_prim_sums #[va0, .int .i64 za1, .int .i64 za2, .int .i64 za3] h R :=
  HC.of_eq (args := [va0, .int .i64 za1, .int .i64 za2, .int .i64 za3]) (fn := Tryd.f46) (by kernel_rfl) (by kernel_rfl) (by kernel_rfl) (by kernel_rfl) (qs := [29, 32, 35, 105, 119, 30100014, 30100030]) (by kernel_rfl) H

/-- slices.ContainsFunc[[]int,int] -/
theorem S_slices_ContainsFunc_int_int {sa0 : Sl} {va1 : Value} {h : Heap} {R : Value → Heap → Prop} (H :
  (HC P F_slices_IndexFunc_int_int #[(Value.slice sa0.a sa0.n sa0.c), va1] h
    (fun v1 h1 => (∃ z1 : Int, ((v1 = (Value.int .i64 z1)) ∧
    (R (Value.bool (decide ((0 : Int) ≤ z1))) h1)))))) :
  HC P F_slices_ContainsFunc_int_int #[.slice sa0.a sa0.n sa0.c, va1] h R :=
  HC.of_eq (args := [.slice sa0.a sa0.n sa0.c, va1]) (fn := Tryd.f56) (by kernel_rfl) (by kernel_rfl) (by kernel_rfl) (by kernel_rfl) (qs := [29, 32, 35, 105, 119]) (by kernel_rfl) H

/-- webster/websterref00.SameInts -/
theorem S_websterref00_SameInts {sa0 : Sl} {sa1 : Sl} {h : Heap} {R : Value → Heap → Prop} (H :
  (cond ((sa0.n : Int) != (sa1.n : Int))
    (R (Value.bool false) h)
    (∃ I1 : (Int → (Bool → (Heap → Prop))), (∃ μ1 : (Int → (Bool → (Heap → Nat))), ((I1 (0 : Int) false h) ∧
    (∀ z1 : Int, (∀ b1 : Bool, (∀ h1 : Heap, ((I1 z1 b1 h1) →
    (cond (decide (z1 < (sa0.n : Int)))
      (optE sa0.a False (fun p1 => (((0 : Int) ≤ z1) ∧
      ((z1 < (sa0.n : Int)) ∧
      (∃ z2 : Int, (((cellH h1 (Addr.add p1 ((Int.toNat z1) * 1))) = (some (Value.int .i64 z2))) ∧
      (optE sa1.a False (fun p2 => (((0 : Int) ≤ z1) ∧
      ((z1 < (sa1.n : Int)) ∧
      (∃ z3 : Int, (((cellH h1 (Addr.add p2 ((Int.toNat z1) * 1))) = (some (Value.int .i64 z3))) ∧
      (cond (z2 != z3)
        (R (Value.bool false) h1)
        ((InI (z1 + (1 : Int))) ∧
        ((I1 (z1 + (1 : Int)) b1 h1) ∧
        ((μ1 (z1 + (1 : Int)) b1 h1) < (μ1 z1 b1 h1)))))))))))))))))
      (R (Value.bool true) h1))))))))))) :
  HC P F_websterref00_SameInts #[.slice sa0.a sa0.n sa0.c, .slice sa1.a sa1.n sa1.c] h R :=
  HC.of_eq (args := [.slice sa0.a sa0.n sa0.c, .slice sa1.a sa1.n sa1.c]) (fn := Tryd.f62) (by kernel_rfl) (by kernel_rfl) (by kernel_rfl) (by kernel_rfl) (qs := [29, 32, 35, 105, 119]) (by kernel_rfl) H

/-- webster/wide.ref -/
theorem S_wide_ref {za0 : Int} {h : Heap} {R : Value → Heap → Prop} (H :
  (HC P F_word_Number #[(Value.int .i64 za0)] h
    (fun v1 h1 => (∃ z1 : Int, (∃ b1 : Bool, ((v1 = (Value.tuple #[(Value.int .i64 z1), (Value.bool b1)])) ∧
    (HC P F_word_Named #[(Value.int .i64 za0)] h1
      (fun v2 h2 => (∃ z2 : Int, (∃ b2 : Bool, ((v2 = (Value.tuple #[(Value.int .i64 z2), (Value.bool b2)])) ∧
      (cond b1
        (R (Value.bool true) h2)
        (R (Value.bool b2) h2))))))))))))) :
  HC P F_wide_ref #[.int .i64 za0] h R :=
  HC.of_eq (args := [.int .i64 za0]) (fn := Tryd.f66) (by kernel_rfl) (by kernel_rfl) (by kernel_rfl) (by kernel_rfl) (qs := [29, 32, 35, 105, 119]) (by kernel_rfl) H

/-- webster/large.Mul -/
theorem S_large_Mul {sa0 : Sl} {sa1 : Sl} {h : Heap} {R : Value → Heap → Prop} (H :
  (HC P F_large_Right #[(Value.slice sa0.a sa0.n sa0.c)] h
    (fun v1 h1 => (∃ b1 : Bool, ((v1 = (Value.bool b1)) ∧
    (cond (!b1)
      (R (Value.tuple #[(Value.slice none 0 0), (Value.int .i64 (2 : Int))]) h1)
      (HC P F_large_Right #[(Value.slice sa1.a sa1.n sa1.c)] h1
        (fun v2 h2 => (∃ b2 : Bool, ((v2 = (Value.bool b2)) ∧
        (cond (!b2)
          (R (Value.tuple #[(Value.slice none 0 0), (Value.int .i64 (2 : Int))]) h2)
          ((InI ((sa0.n : Int) + (sa1.n : Int))) ∧
          (((0 : Int) ≤ ((sa0.n : Int) + (sa1.n : Int))) ∧
          ((((sa0.n : Int) + (sa1.n : Int)) ≤ ((sa0.n : Int) + (sa1.n : Int))) ∧
          ((((sa0.n : Int) + (sa1.n : Int)) ≤ (1099511627776 : Int)) ∧
          ((1 ≤ 256) ∧
          ((1 = 1) ∧
          ((0 < 1) ∧
          (∀ h1_1 : Heap, ((h1_1 = (Array.push h2 (Obj.cells (List.toArray (List.flatten (List.replicate (Int.toNat ((sa0.n : Int) + (sa1.n : Int))) [(Value.int .u8 (0 : Int))]))) T_uint8 (0, 0)))) →
          (∃ I1 : (Int → (Heap → Prop)), (∃ μ1 : (Int → (Heap → Nat)), ((I1 (0 : Int) h1_1) ∧
          (∀ z1 : Int, (∀ h2_1 : Heap, ((I1 z1 h2_1) →
          (cond (decide (z1 < (sa0.n : Int)))
            (optE sa0.a False (fun p1 => (((0 : Int) ≤ z1) ∧
            ((z1 < (sa0.n : Int)) ∧
            (∃ z2 : Int, (((cellH h2_1 (Addr.add p1 ((Int.toNat z1) * 1))) = (some (Value.int .u8 z2))) ∧
            ((InI ((sa1.n : Int) + (1 : Int))) ∧
            (∃ I2 : (Int → (Int → (Heap → Prop))), (∃ μ2 : (Int → (Int → (Heap → Nat))), ((I2 (0 : Int) (0 : Int) h2_1) ∧
            (∀ z3 : Int, (∀ z4 : Int, (∀ h3 : Heap, ((I2 z3 z4 h3) →
            (cond (decide (z3 < ((sa1.n : Int) + (1 : Int))))
              (∀ J1 : (Int → (Heap → Prop)), ((∀ z5 : Int, (∀ h4 : Heap, (((InI (z3 + (1 : Int))) ∧
                  ((I2 (z3 + (1 : Int)) z5 h4) ∧
                  ((μ2 (z3 + (1 : Int)) z5 h4) < (μ2 z3 z4 h3)))) →
                (J1 z5 h4)))) →
              ((InI (z1 + z3)) ∧
              (cond (decide ((z1 + z3) < (((Int.toNat ((sa0.n : Int) + (sa1.n : Int))) : Nat) : Int)))
                ((InI (z1 + z3)) ∧
                (((0 : Int) ≤ (z1 + z3)) ∧
                (((z1 + z3) < (((Int.toNat ((sa0.n : Int) + (sa1.n : Int))) : Nat) : Int)) ∧
                (∃ z5 : Int, (((cellH h3 (Addr.add (Addr.mk (Array.size h2) 0 none) ((Int.toNat (z1 + z3)) * 1))) = (some (Value.int .u8 z5))) ∧
                ((InI z5) ∧
                ((InI z2) ∧
                (∃ z6 : Int, ((HC P F_large_digit #[(Value.slice sa1.a sa1.n sa1.c), (Value.int .i64 z3)] h3
                   (fun v3 h3_1 => ((v3 = (Value.int .i64 z6)) ∧
                   (h3_1 = h3)))) ∧
                ((InI (z2 * z6)) ∧
                ((InI (z5 + (z2 * z6))) ∧
                ((InI (z4 + (z5 + (z2 * z6)))) ∧
                ((InI (z1 + z3)) ∧
                (((0 : Int) ≤ (z1 + z3)) ∧
                (((z1 + z3) < (((Int.toNat ((sa0.n : Int) + (sa1.n : Int))) : Nat) : Int)) ∧
                ((StOK h3 (Addr.add (Addr.mk (Array.size h2) 0 none) ((Int.toNat (z1 + z3)) * 1)) 1) ∧
                (∀ h4 : Heap, ((h4 = (putH h3 (Addr.add (Addr.mk (Array.size h2) 0 none) ((Int.toNat (z1 + z3)) * 1)) (Value.int .u8 (IntKind.wrap (Go.IntKind.u8) (z4 + (z5 + (z2 * z6))))))) →
                (((0 : Int) ≤ (8 : Int)) ∧
                (((8 : Int) < (64 : Int)) ∧
                (J1 ((z4 + (z5 + (z2 * z6))) / (256 : Int)) h4)))))))))))))))))))))
                (J1 z4 h3)))))
              ((InI (z1 + (1 : Int))) ∧
              ((I1 (z1 + (1 : Int)) h3) ∧
              ((μ1 (z1 + (1 : Int)) h3) < (μ1 z1 h2_1)))))))))))))))))))
            (HC P F_large_told #[(Value.slice (some (Addr.mk (Array.size h2) 0 none)) (Int.toNat ((sa0.n : Int) + (sa1.n : Int))) (Int.toNat ((sa0.n : Int) + (sa1.n : Int))))] h2_1
              (fun v3 h3 => (∃ s1 : Sl, (∃ z2 : Int, ((v3 = (Value.tuple #[(Value.slice s1.a s1.n s1.c), (Value.int .i64 z2)])) ∧
              (R (Value.tuple #[(Value.slice s1.a s1.n s1.c), (Value.int .i64 z2)]) h3))))))))))))))))))))))))))))))))) :
  HC P F_large_Mul #[.slice sa0.a sa0.n sa0.c, .slice sa1.a sa1.n sa1.c] h R :=
  HC.of_eq (args := [.slice sa0.a sa0.n sa0.c, .slice sa1.a sa1.n sa1.c]) (fn := Tryd.f74) (by kernel_rfl) (by kernel_rfl) (by kernel_rfl) (by kernel_rfl) (qs := [29, 32, 35, 105, 119, 30000007]) (by kernel_rfl) H

/-- webster/prim.get -/
theorem S_prim_get {va0 : Value} {za1 : Int} {za2 : Int} {h : Heap} {R : Value → Heap → Prop} (H :
  (HC P F_prim_at #[va0, (Value.int .i64 za1), (Value.int .i64 za2)] h
    (fun v1 h1 => (∃ z1 : Int, (∃ z2 : Int, (∃ z3 : Int, ((v1 = (Value.tuple #[(Value.int .i64 z1), (Value.int .i64 z2), (Value.int .i64 z3)])) ∧
    (cond (z3 != (0 : Int))
      (R (Value.tuple #[(Value.int .i64 (0 : Int)), (Value.int .i64 z3)]) h1)
      (cond (z2 == (1 : Int))
        (HI P va0 "Fetch" #[(Value.int .i64 za1), (Value.int .i64 z1)] h1
          (fun v2 h2 => (∃ z4 : Int, (∃ z5 : Int, ((v2 = (Value.tuple #[(Value.int .i64 z4), (Value.int .i64 z5)])) ∧
          (R (Value.tuple #[(Value.int .i64 z4), (Value.int .i64 z5)]) h2))))))
        (HI P va0 "Byte" #[(Value.int .i64 za1), (Value.int .i64 z1)] h1
          (fun v2 h2 => (∃ z4 : Int, (∃ z5 : Int, ((v2 = (Value.tuple #[(Value.int .i64 z4), (Value.int .i64 z5)])) ∧
          (cond (z5 != (0 : Int))
            (R (Value.tuple #[(Value.int .i64 (0 : Int)), (Value.int .i64 z5)]) h2)
            (HC P F_word_Small #[(Value.int .i64 z4)] h2
              (fun v3 h3 => (∃ z6 : Int, (∃ z7 : Int, ((v3 = (Value.tuple #[(Value.int .i64 z6), (Value.int .i64 z7)])) ∧
              (R (Value.tuple #[(Value.int .i64 z6), (Value.int .i64 z7)]) h3))))))))))))))))))))) :
  HC P F_prim_get #[va0, .int .i64 za1, .int .i64 za2] h R :=
  HC.of_eq (args := [va0, .int .i64 za1, .int .i64 za2]) (fn := Tryd.f78) (by kernel_rfl) (by kernel_rfl) (by kernel_rfl) (by kernel_rfl) (qs := [29, 32, 35, 105, 119]) (by kernel_rfl) H

/-- slices.IndexFunc[[]int,int] -/
theorem S_slices_IndexFunc_int_int {sa0 : Sl} {va1 : Value} {h : Heap} {R : Value → Heap → Prop} (H :
  (∃ I1 : (Int → (Int → (Heap → Prop))), (∃ μ1 : (Int → (Int → (Heap → Nat))), ((I1 (0 : Int) (0 : Int) h) ∧
  (∀ z1 : Int, (∀ z2 : Int, (∀ h1 : Heap, ((I1 z1 z2 h1) →
  (cond (decide (z1 < (sa0.n : Int)))
    (optE sa0.a False (fun p1 => (((0 : Int) ≤ z1) ∧
    ((z1 < (sa0.n : Int)) ∧
    (∃ z3 : Int, (((cellH h1 (Addr.add p1 ((Int.toNat z1) * 1))) = (some (Value.int .i64 z3))) ∧
    (HV P va1 #[(Value.int .i64 z3)] h1
      (fun v1 h1_1 => (∃ b1 : Bool, ((v1 = (Value.bool b1)) ∧
      (cond b1
        (R (Value.int .i64 z1) h1_1)
        ((InI (z1 + (1 : Int))) ∧
        ((I1 (z1 + (1 : Int)) z2 h1_1) ∧
        ((μ1 (z1 + (1 : Int)) z2 h1_1) < (μ1 z1 z2 h1)))))))))))))))
    (R (Value.int .i64 (-1 : Int)) h1)))))))))) :
  HC P F_slices_IndexFunc_int_int #[.slice sa0.a sa0.n sa0.c, va1] h R :=
  HC.of_eq (args := [.slice sa0.a sa0.n sa0.c, va1]) (fn := Tryd.f90) (by kernel_rfl) (by kernel_rfl) (by kernel_rfl) (by kernel_rfl) (qs := [29, 32, 35, 105, 119]) (by kernel_rfl) H

/-- webster/kit.Instance$1 -/
theorem S_kit_Instance_1 {za0 : Int} {h : Heap} {R : Value → Heap → Prop} (H :
  (cond (decide (za0 < (0 : Int)))
    (R (Value.bool true) h)
    (R (Value.bool (decide ((1000 : Int) < za0))) h))) :
  HC P F_kit_Instance_1 #[.int .i64 za0] h R :=
  HC.of_eq (args := [.int .i64 za0]) (fn := Tryd.f109) (by kernel_rfl) (by kernel_rfl) (by kernel_rfl) (by kernel_rfl) (qs := [29, 32, 35, 105, 119]) (by kernel_rfl) H

/-- webster/flat.Blank -/
theorem S_flat_Blank {za0 : Int} {za1 : Int} {za2 : Int} {h : Heap} {R : Value → Heap → Prop} (H :
  (∀ h1 : Heap, ((h1 = (Array.push h (Obj.cells #[(Value.int .i64 (0 : Int)), (Value.int .i64 (0 : Int)), (Value.slice none 0 0), (Value.slice none 0 0)] T_api_Obj (0, 0)))) →
  (HC P F_word_Named #[(Value.int .i64 za0)] h1
    (fun v1 h1_1 => (∃ z1 : Int, (∃ b1 : Bool, ((v1 = (Value.tuple #[(Value.int .i64 z1), (Value.bool b1)])) ∧
    (∀ h2 : Heap, ((h2 = (Array.push h1_1 (Obj.cells #[(Value.int .i64 (0 : Int)), (Value.int .i64 (0 : Int)), (Value.slice none 0 0), (Value.slice none 0 0)] T_api_Obj (0, 0)))) →
    ((StOK h2 (Addr.mk (Array.size h1_1) 0 none) 4) ∧
    (∀ h3 : Heap, ((h3 = (putsH h2 (Addr.mk (Array.size h1_1) 0 none) [(Value.int .i64 za0), (Value.int .i64 za1), (Value.slice none 0 0), (Value.slice none 0 0)] 0)) →
    (∀ J1 : (Bool → (Heap → Prop)), ((∀ b2 : Bool, (∀ h4 : Heap, ((∀ J2 : (Heap → Prop), ((∀ h5 : Heap, ((∃ z2 : Int, (((cellH h5 (Addr.add (Addr.mk (Array.size h1_1) 0 none) 0)) = (some (Value.int .i64 z2))) ∧
            (∃ z3 : Int, (((cellH h5 (Addr.add (Addr.mk (Array.size h1_1) 0 none) 1)) = (some (Value.int .i64 z3))) ∧
            (∃ s1 : Sl, (((cellH h5 (Addr.add (Addr.mk (Array.size h1_1) 0 none) 2)) = (some (Value.slice s1.a s1.n s1.c))) ∧
            (∃ s2 : Sl, (((cellH h5 (Addr.add (Addr.mk (Array.size h1_1) 0 none) 3)) = (some (Value.slice s2.a s2.n s2.c))) ∧
            ((StOK h5 (Addr.mk (Array.size h) 0 none) 4) ∧
            (∀ h6 : Heap, ((h6 = (putsH h5 (Addr.mk (Array.size h) 0 none) [(Value.int .i64 z2), (Value.int .i64 z3), (Value.slice s1.a s1.n s1.c), (Value.slice s2.a s2.n s2.c)] 0)) →
            (∃ z4 : Int, (((cellH h6 (Addr.add (Addr.mk (Array.size h) 0 none) 0)) = (some (Value.int .i64 z4))) ∧
            (∃ z5 : Int, (((cellH h6 (Addr.add (Addr.mk (Array.size h) 0 none) 1)) = (some (Value.int .i64 z5))) ∧
            (∃ s3 : Sl, (((cellH h6 (Addr.add (Addr.mk (Array.size h) 0 none) 2)) = (some (Value.slice s3.a s3.n s3.c))) ∧
            (∃ s4 : Sl, (((cellH h6 (Addr.add (Addr.mk (Array.size h) 0 none) 3)) = (some (Value.slice s4.a s4.n s4.c))) ∧
            (R (Value.tuple #[(Value.agg #[(Value.int .i64 z4), (Value.int .i64 z5), (Value.slice s3.a s3.n s3.c), (Value.slice s4.a s4.n s4.c)]), (Value.bool true)]) h6)))))))))))))))))))) →
          (J2 h5))) →
        (cond (za1 == (1 : Int))
          (∀ h5 : Heap, ((h5 = (Array.push h4 (Obj.cells #[(Value.int .i64 (2 : Int))] T_int (0, 0)))) →
          (HC P F_slices_Repeat_int_int #[(Value.slice (some (Addr.mk (Array.size h4) 0 none)) 1 1), (Value.int .i64 za2)] h5
            (fun v2 h2_1 => (∃ s1 : Sl, ((v2 = (Value.slice s1.a s1.n s1.c)) ∧
            ((StOK h2_1 (Addr.add (Addr.mk (Array.size h1_1) 0 none) 2) 1) ∧
            (∀ h6 : Heap, ((h6 = (putH h2_1 (Addr.add (Addr.mk (Array.size h1_1) 0 none) 2) (Value.slice s1.a s1.n s1.c))) →
            (J2 h6))))))))))
          (((0 : Int) ≤ za2) ∧
          ((za2 ≤ za2) ∧
          ((za2 ≤ (1099511627776 : Int)) ∧
          ((1 ≤ 256) ∧
          ((1 = 1) ∧
          ((0 < 1) ∧
          (∀ h5 : Heap, ((h5 = (Array.push h4 (Obj.cells (List.toArray (List.flatten (List.replicate (Int.toNat za2) [(Value.int .u8 (0 : Int))]))) T_uint8 (0, 0)))) →
          ((StOK h5 (Addr.add (Addr.mk (Array.size h1_1) 0 none) 3) 1) ∧
          (∀ h6 : Heap, ((h6 = (putH h5 (Addr.add (Addr.mk (Array.size h1_1) 0 none) 3) (Value.slice (some (Addr.mk (Array.size h4) 0 none)) (Int.toNat za2) (Int.toNat za2)))) →
          (J2 h6))))))))))))))) →
      (J1 b2 h4)))) →
    (cond (!b1)
      ((StOK h3 (Addr.mk (Array.size h) 0 none) 4) ∧
      (∀ h4 : Heap, ((h4 = (putsH h3 (Addr.mk (Array.size h) 0 none) [(Value.int .i64 (0 : Int)), (Value.int .i64 (0 : Int)), (Value.slice none 0 0), (Value.slice none 0 0)] 0)) →
      (∃ z2 : Int, (((cellH h4 (Addr.add (Addr.mk (Array.size h) 0 none) 0)) = (some (Value.int .i64 z2))) ∧
      (∃ z3 : Int, (((cellH h4 (Addr.add (Addr.mk (Array.size h) 0 none) 1)) = (some (Value.int .i64 z3))) ∧
      (∃ s1 : Sl, (((cellH h4 (Addr.add (Addr.mk (Array.size h) 0 none) 2)) = (some (Value.slice s1.a s1.n s1.c))) ∧
      (∃ s2 : Sl, (((cellH h4 (Addr.add (Addr.mk (Array.size h) 0 none) 3)) = (some (Value.slice s2.a s2.n s2.c))) ∧
      (R (Value.tuple #[(Value.agg #[(Value.int .i64 z2), (Value.int .i64 z3), (Value.slice s1.a s1.n s1.c), (Value.slice s2.a s2.n s2.c)]), (Value.bool false)]) h4))))))))))))
      (cond (za1 != (1 : Int))
        (cond (za1 != (2 : Int))
          ((StOK h3 (Addr.mk (Array.size h) 0 none) 4) ∧
          (∀ h4 : Heap, ((h4 = (putsH h3 (Addr.mk (Array.size h) 0 none) [(Value.int .i64 (0 : Int)), (Value.int .i64 (0 : Int)), (Value.slice none 0 0), (Value.slice none 0 0)] 0)) →
          (∃ z2 : Int, (((cellH h4 (Addr.add (Addr.mk (Array.size h) 0 none) 0)) = (some (Value.int .i64 z2))) ∧
          (∃ z3 : Int, (((cellH h4 (Addr.add (Addr.mk (Array.size h) 0 none) 1)) = (some (Value.int .i64 z3))) ∧
          (∃ s1 : Sl, (((cellH h4 (Addr.add (Addr.mk (Array.size h) 0 none) 2)) = (some (Value.slice s1.a s1.n s1.c))) ∧
          (∃ s2 : Sl, (((cellH h4 (Addr.add (Addr.mk (Array.size h) 0 none) 3)) = (some (Value.slice s2.a s2.n s2.c))) ∧
          (R (Value.tuple #[(Value.agg #[(Value.int .i64 z2), (Value.int .i64 z3), (Value.slice s1.a s1.n s1.c), (Value.slice s2.a s2.n s2.c)]), (Value.bool false)]) h4))))))))))))
          (cond (decide (za2 < (0 : Int)))
            ((StOK h3 (Addr.mk (Array.size h) 0 none) 4) ∧
            (∀ h4 : Heap, ((h4 = (putsH h3 (Addr.mk (Array.size h) 0 none) [(Value.int .i64 (0 : Int)), (Value.int .i64 (0 : Int)), (Value.slice none 0 0), (Value.slice none 0 0)] 0)) →
            (∃ z2 : Int, (((cellH h4 (Addr.add (Addr.mk (Array.size h) 0 none) 0)) = (some (Value.int .i64 z2))) ∧
            (∃ z3 : Int, (((cellH h4 (Addr.add (Addr.mk (Array.size h) 0 none) 1)) = (some (Value.int .i64 z3))) ∧
            (∃ s1 : Sl, (((cellH h4 (Addr.add (Addr.mk (Array.size h) 0 none) 2)) = (some (Value.slice s1.a s1.n s1.c))) ∧
            (∃ s2 : Sl, (((cellH h4 (Addr.add (Addr.mk (Array.size h) 0 none) 3)) = (some (Value.slice s2.a s2.n s2.c))) ∧
            (R (Value.tuple #[(Value.agg #[(Value.int .i64 z2), (Value.int .i64 z3), (Value.slice s1.a s1.n s1.c), (Value.slice s2.a s2.n s2.c)]), (Value.bool false)]) h4))))))))))))
            (cond (decide ((1000 : Int) < za2))
              ((StOK h3 (Addr.mk (Array.size h) 0 none) 4) ∧
              (∀ h4 : Heap, ((h4 = (putsH h3 (Addr.mk (Array.size h) 0 none) [(Value.int .i64 (0 : Int)), (Value.int .i64 (0 : Int)), (Value.slice none 0 0), (Value.slice none 0 0)] 0)) →
              (∃ z2 : Int, (((cellH h4 (Addr.add (Addr.mk (Array.size h) 0 none) 0)) = (some (Value.int .i64 z2))) ∧
              (∃ z3 : Int, (((cellH h4 (Addr.add (Addr.mk (Array.size h) 0 none) 1)) = (some (Value.int .i64 z3))) ∧
              (∃ s1 : Sl, (((cellH h4 (Addr.add (Addr.mk (Array.size h) 0 none) 2)) = (some (Value.slice s1.a s1.n s1.c))) ∧
              (∃ s2 : Sl, (((cellH h4 (Addr.add (Addr.mk (Array.size h) 0 none) 3)) = (some (Value.slice s2.a s2.n s2.c))) ∧
              (R (Value.tuple #[(Value.agg #[(Value.int .i64 z2), (Value.int .i64 z3), (Value.slice s1.a s1.n s1.c), (Value.slice s2.a s2.n s2.c)]), (Value.bool false)]) h4))))))))))))
              (J1 false h3))))
        (cond (decide (za2 < (0 : Int)))
          ((StOK h3 (Addr.mk (Array.size h) 0 none) 4) ∧
          (∀ h4 : Heap, ((h4 = (putsH h3 (Addr.mk (Array.size h) 0 none) [(Value.int .i64 (0 : Int)), (Value.int .i64 (0 : Int)), (Value.slice none 0 0), (Value.slice none 0 0)] 0)) →
          (∃ z2 : Int, (((cellH h4 (Addr.add (Addr.mk (Array.size h) 0 none) 0)) = (some (Value.int .i64 z2))) ∧
          (∃ z3 : Int, (((cellH h4 (Addr.add (Addr.mk (Array.size h) 0 none) 1)) = (some (Value.int .i64 z3))) ∧
          (∃ s1 : Sl, (((cellH h4 (Addr.add (Addr.mk (Array.size h) 0 none) 2)) = (some (Value.slice s1.a s1.n s1.c))) ∧
          (∃ s2 : Sl, (((cellH h4 (Addr.add (Addr.mk (Array.size h) 0 none) 3)) = (some (Value.slice s2.a s2.n s2.c))) ∧
          (R (Value.tuple #[(Value.agg #[(Value.int .i64 z2), (Value.int .i64 z3), (Value.slice s1.a s1.n s1.c), (Value.slice s2.a s2.n s2.c)]), (Value.bool false)]) h4))))))))))))
          (cond (decide ((1000 : Int) < za2))
            ((StOK h3 (Addr.mk (Array.size h) 0 none) 4) ∧
            (∀ h4 : Heap, ((h4 = (putsH h3 (Addr.mk (Array.size h) 0 none) [(Value.int .i64 (0 : Int)), (Value.int .i64 (0 : Int)), (Value.slice none 0 0), (Value.slice none 0 0)] 0)) →
            (∃ z2 : Int, (((cellH h4 (Addr.add (Addr.mk (Array.size h) 0 none) 0)) = (some (Value.int .i64 z2))) ∧
            (∃ z3 : Int, (((cellH h4 (Addr.add (Addr.mk (Array.size h) 0 none) 1)) = (some (Value.int .i64 z3))) ∧
            (∃ s1 : Sl, (((cellH h4 (Addr.add (Addr.mk (Array.size h) 0 none) 2)) = (some (Value.slice s1.a s1.n s1.c))) ∧
            (∃ s2 : Sl, (((cellH h4 (Addr.add (Addr.mk (Array.size h) 0 none) 3)) = (some (Value.slice s2.a s2.n s2.c))) ∧
            (R (Value.tuple #[(Value.agg #[(Value.int .i64 z2), (Value.int .i64 z3), (Value.slice s1.a s1.n s1.c), (Value.slice s2.a s2.n s2.c)]), (Value.bool false)]) h4))))))))))))
            (J1 false h3)))))))))))))))))))) :
  HC P F_flat_Blank #[.int .i64 za0, .int .i64 za1, .int .i64 za2] h R :=
  HC.of_eq (args := [.int .i64 za0, .int .i64 za1, .int .i64 za2]) (fn := Tryd.f159) (by kernel_rfl) (by kernel_rfl) (by kernel_rfl) (by kernel_rfl) (qs := [29, 32, 35, 105, 119, 30100006, 30100010]) (by kernel_rfl) H

/-- webster/wide.Copy -/
theorem S_wide_Copy {za0_0 : Int} {za0_1 : Int} {sa0_2 : Sl} {sa0_3 : Sl} {h : Heap} {R : Value → Heap → Prop} (H :
  (∀ h1 : Heap, ((h1 = (Array.push h (Obj.cells #[(Value.int .i64 za0_0), (Value.int .i64 za0_1), (Value.slice sa0_2.a sa0_2.n sa0_2.c), (Value.slice sa0_3.a sa0_3.n sa0_3.c)] T_api_Obj (0, 0)))) →
  (∀ h2 : Heap, ((h2 = (Array.push h1 (Obj.cells #[(Value.int .i64 (0 : Int)), (Value.int .i64 (0 : Int)), (Value.slice none 0 0), (Value.slice none 0 0)] T_api_Obj (0, 0)))) →
  (∃ s1 : Sl, (((cellH h2 (Addr.add (Addr.mk (Array.size h) 0 none) 2)) = (some (Value.slice s1.a s1.n s1.c))) ∧
  (∃ s2 : Sl, (((cellH h2 (Addr.add (Addr.mk (Array.size h) 0 none) 3)) = (some (Value.slice s2.a s2.n s2.c))) ∧
  (HC P F_slices_Clone_int_int #[(Value.slice s1.a s1.n s1.c)] h2
    (fun v1 h1_1 => (∃ s3 : Sl, ((v1 = (Value.slice s3.a s3.n s3.c)) ∧
    ((∃ s4 : Sl, (((cellH h1_1 (Addr.add (Addr.mk (Array.size h) 0 none) 3)) = (some (Value.slice s4.a s4.n s4.c))) ∧
     ((Value.slice s4.a s4.n s4.c) = (Value.slice s2.a s2.n s2.c)))) ∧
    (HC P F_slices_Clone_byte_byte #[(Value.slice s2.a s2.n s2.c)] h1_1
      (fun v2 h2_1 => (∃ s4 : Sl, ((v2 = (Value.slice s4.a s4.n s4.c)) ∧
      ((StOK h2_1 (Addr.add (Addr.mk (Array.size h) 0 none) 2) 1) ∧
      (∀ h3 : Heap, ((h3 = (putH h2_1 (Addr.add (Addr.mk (Array.size h) 0 none) 2) (Value.slice s3.a s3.n s3.c))) →
      ((StOK h3 (Addr.add (Addr.mk (Array.size h) 0 none) 3) 1) ∧
      (∀ h4 : Heap, ((h4 = (putH h3 (Addr.add (Addr.mk (Array.size h) 0 none) 3) (Value.slice s4.a s4.n s4.c))) →
      (∃ z1 : Int, (((cellH h4 (Addr.add (Addr.mk (Array.size h) 0 none) 0)) = (some (Value.int .i64 z1))) ∧
      (∃ z2 : Int, (((cellH h4 (Addr.add (Addr.mk (Array.size h) 0 none) 1)) = (some (Value.int .i64 z2))) ∧
      (∃ s5 : Sl, (((cellH h4 (Addr.add (Addr.mk (Array.size h) 0 none) 2)) = (some (Value.slice s5.a s5.n s5.c))) ∧
      (∃ s6 : Sl, (((cellH h4 (Addr.add (Addr.mk (Array.size h) 0 none) 3)) = (some (Value.slice s6.a s6.n s6.c))) ∧
      ((StOK h4 (Addr.mk (Array.size h1) 0 none) 4) ∧
      (∀ h5 : Heap, ((h5 = (putsH h4 (Addr.mk (Array.size h1) 0 none) [(Value.int .i64 z1), (Value.int .i64 z2), (Value.slice s5.a s5.n s5.c), (Value.slice s6.a s6.n s6.c)] 0)) →
      (∃ z3 : Int, (((cellH h5 (Addr.add (Addr.mk (Array.size h1) 0 none) 0)) = (some (Value.int .i64 z3))) ∧
      (∃ z4 : Int, (((cellH h5 (Addr.add (Addr.mk (Array.size h1) 0 none) 1)) = (some (Value.int .i64 z4))) ∧
      (∃ s7 : Sl, (((cellH h5 (Addr.add (Addr.mk (Array.size h1) 0 none) 2)) = (some (Value.slice s7.a s7.n s7.c))) ∧
      (∃ s8 : Sl, (((cellH h5 (Addr.add (Addr.mk (Array.size h1) 0 none) 3)) = (some (Value.slice s8.a s8.n s8.c))) ∧
      (R (Value.agg #[(Value.int .i64 z3), (Value.int .i64 z4), (Value.slice s7.a s7.n s7.c), (Value.slice s8.a s8.n s8.c)]) h5)))))))))))))))))))))))))))))))))))))))))))) :
  HC P F_wide_Copy #[.agg #[.int .i64 za0_0, .int .i64 za0_1, .slice sa0_2.a sa0_2.n sa0_2.c, .slice sa0_3.a sa0_3.n sa0_3.c]] h R :=
  HC.of_eq (args := [.agg #[.int .i64 za0_0, .int .i64 za0_1, .slice sa0_2.a sa0_2.n sa0_2.c, .slice sa0_3.a sa0_3.n sa0_3.c]]) (fn := Tryd.f160) (by kernel_rfl) (by kernel_rfl) (by kernel_rfl) (by kernel_rfl) (qs := [29, 32, 35, 105, 119]) (by kernel_rfl) H

end Go.Hv.W
