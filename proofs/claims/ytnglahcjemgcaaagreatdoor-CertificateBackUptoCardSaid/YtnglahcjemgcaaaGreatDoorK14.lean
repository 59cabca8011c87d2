/- Closed calls of this program, data (text 1). No condition. Printed by mkaw.py. -/
import Derived.Test.YtnglahcjemgcaaaGreatDoorK13
namespace Go.Proofs.YtnglahcjemgcaaaGreatDoor
open Go.RowKit

def axb0 : EBlk := .cells [(.string ⟨#[115, 101, 99, 116, 105, 111, 110]⟩), (.int .i64 1), (.int .i64 1), (.string ⟨#[65]⟩), (.int .i64 1), (.int .i64 9), (.string ⟨#[52, 48]⟩), (.int .i64 1), (.int .i64 11), (.string ⟨#[51, 48, 48, 48, 48]⟩), (.int .i64 1), (.int .i64 14), (.string ⟨#[48]⟩), (.int .i64 1), (.int .i64 20)] 46 3
/-- railplan/railplanref1.one -/
def axk0 : Cut where
  f := 33
  n := 300
  args := [(.string ⟨#[115, 101, 99, 116, 105, 111, 110, 32, 65, 32, 52, 48, 32, 51, 48, 48, 48, 48, 32, 48]⟩), (.int .i64 1)]
  pre := []
  v := (.tuple #[(.slice (some ⟨1640, 0, none⟩) 5 FULL), (.int .i64 0)])
  post := [(1640, axb0)]
  n2 := 1661
  frame := [4, 2]
def axk0_h : Hook := (fun _ _ _ _ => none)
def axb1 : EBlk := .cells [(.string ⟨#[115, 101, 99, 116, 105, 111, 110]⟩), (.int .i64 2), (.int .i64 1), (.string ⟨#[66]⟩), (.int .i64 2), (.int .i64 9), (.string ⟨#[50, 48]⟩), (.int .i64 2), (.int .i64 11), (.string ⟨#[51, 48, 48, 48, 48]⟩), (.int .i64 2), (.int .i64 14), (.string ⟨#[48]⟩), (.int .i64 2), (.int .i64 20)] 46 3
/-- railplan/railplanref1.one -/
def axk1 : Cut where
  f := 33
  n := 1964
  args := [(.string ⟨#[115, 101, 99, 116, 105, 111, 110, 32, 66, 32, 50, 48, 32, 51, 48, 48, 48, 48, 32, 48]⟩), (.int .i64 2)]
  pre := []
  v := (.tuple #[(.slice (some ⟨3304, 0, none⟩) 5 FULL), (.int .i64 0)])
  post := [(3304, axb1)]
  n2 := 3325
  frame := [1674, 1640, 1673, 4, 2]
def axk1_h : Hook := (fun _ _ _ _ => none)
def axb2 : EBlk := .cells [(.slice (some ⟨1640, 0, none⟩) 5 FULL), (.slice (some ⟨3304, 0, none⟩) 5 FULL), (.slice (some ⟨4216, 0, none⟩) 5 FULL)] 42 1
def axb3 : EBlk := .cells [(.string ⟨#[108, 105, 110, 107]⟩), (.int .i64 3), (.int .i64 1), (.string ⟨#[65]⟩), (.int .i64 3), (.int .i64 6), (.string ⟨#[66]⟩), (.int .i64 3), (.int .i64 8), (.string ⟨#[66]⟩), (.int .i64 3), (.int .i64 10), (.string ⟨#[65]⟩), (.int .i64 3), (.int .i64 12)] 46 3
/-- railplan/railplanref1.Lines -/
def axk2 : Cut where
  f := 17
  n := 9
  args := [(.string ⟨#[115, 101, 99, 116, 105, 111, 110, 32, 65, 32, 52, 48, 32, 51, 48, 48, 48, 48, 32, 48, 10, 115, 101, 99, 116, 105, 111, 110, 32, 66, 32, 50, 48, 32, 51, 48, 48, 48, 48, 32, 48, 10, 108, 105, 110, 107, 32, 65, 32, 66, 32, 66, 32, 65, 10]⟩)]
  pre := []
  v := (.tuple #[(.slice (some ⟨4250, 0, none⟩) 3 FULL), (.int .i64 0), (.int .i64 0)])
  post := [(4250, axb2), (1640, axb0), (3304, axb1), (4216, axb3)]
  n2 := 4266
  frame := [4, 2]
def axk2_h : Hook := (cutHook axk0 (cutHook axk1 (fun _ _ _ _ => none)))
def axb4 : EBlk := .cells [(.string ⟨#[65]⟩), (.int .i64 40), (.int .i64 30000), (.int .i64 0), (.int .i64 (-1)), (.string ⟨#[66]⟩), (.int .i64 20), (.int .i64 30000), (.int .i64 0), (.int .i64 (-1))] 231 5
def axb5 : EBlk := .cells [(.int .i64 0), (.int .i64 1), (.int .i64 1), (.int .i64 0), (.int .i64 (-1)), (.int .i64 0)] 278 6
/-- railplan/railplanref1.Parse -/
def axk3 : Cut where
  f := 42
  n := 4
  args := [(.string ⟨#[115, 101, 99, 116, 105, 111, 110, 32, 65, 32, 52, 48, 32, 51, 48, 48, 48, 48, 32, 48, 10, 115, 101, 99, 116, 105, 111, 110, 32, 66, 32, 50, 48, 32, 51, 48, 48, 48, 48, 32, 48, 10, 108, 105, 110, 107, 32, 65, 32, 66, 32, 66, 32, 65, 10]⟩)]
  pre := []
  v := (.tuple #[(.agg #[(.slice none 0 0), (.slice none 0 0), (.slice (some ⟨5289, 0, none⟩) 2 FULL), (.slice (some ⟨5548, 0, none⟩) 1 FULL)]), (.int .i64 0), (.int .i64 0)])
  post := [(5289, axb4), (5548, axb5)]
  n2 := 6224
  frame := [2]
def axk3_h : Hook := (cutHook axk2 (fun _ _ _ _ => none))
def axb6 : EBlk := .cells [(.int .i64 0), (.int .i64 0), (.int .i64 1), (.int .i64 0)] 104 2
def axb7 : EBlk := .cells [(.int .i64 30000), (.int .i64 0), (.int .i64 30000), (.int .i64 0), (.int .i64 30000), (.int .i64 0), (.int .i64 30000), (.int .i64 0), (.int .i64 30000), (.int .i64 0), (.int .i64 30000), (.int .i64 0), (.int .i64 30000), (.int .i64 0), (.int .i64 30000), (.int .i64 0), (.int .i64 30000), (.int .i64 0), (.int .i64 30000), (.int .i64 0), (.int .i64 30000), (.int .i64 0), (.int .i64 30000), (.int .i64 0), (.int .i64 30000), (.int .i64 0), (.int .i64 30000), (.int .i64 0), (.int .i64 30000), (.int .i64 0), (.int .i64 30000), (.int .i64 0), (.int .i64 30000), (.int .i64 0), (.int .i64 30000), (.int .i64 0), (.int .i64 30000), (.int .i64 0), (.int .i64 30000), (.int .i64 0), (.int .i64 30000), (.int .i64 0), (.int .i64 30000), (.int .i64 0), (.int .i64 30000), (.int .i64 0), (.int .i64 30000), (.int .i64 0), (.int .i64 30000), (.int .i64 0), (.int .i64 30000), (.int .i64 0), (.int .i64 30000), (.int .i64 0), (.int .i64 30000), (.int .i64 0), (.int .i64 30000), (.int .i64 0), (.int .i64 30000), (.int .i64 0), (.int .i64 30000), (.int .i64 0), (.int .i64 30000), (.int .i64 0), (.int .i64 30000), (.int .i64 0), (.int .i64 30000), (.int .i64 0), (.int .i64 30000), (.int .i64 0), (.int .i64 30000), (.int .i64 0), (.int .i64 30000), (.int .i64 0), (.int .i64 30000), (.int .i64 0), (.int .i64 30000), (.int .i64 0), (.int .i64 30000), (.int .i64 0), (.int .i64 30000), (.int .i64 0), (.int .i64 30000), (.int .i64 0), (.int .i64 30000), (.int .i64 0), (.int .i64 30000), (.int .i64 0), (.int .i64 30000), (.int .i64 0), (.int .i64 30000), (.int .i64 0), (.int .i64 30000), (.int .i64 0), (.int .i64 30000), (.int .i64 0), (.int .i64 30000), (.int .i64 0), (.int .i64 30000), (.int .i64 0), (.int .i64 30000), (.int .i64 0), (.int .i64 30000), (.int .i64 0), (.int .i64 30000), (.int .i64 0), (.int .i64 30000), (.int .i64 0), (.int .i64 30000), (.int .i64 0), (.int .i64 30000), (.int .i64 0), (.int .i64 30000), (.int .i64 0), (.int .i64 30000), (.int .i64 0), (.int .i64 30000), (.int .i64 0), (.int .i64 30000), (.int .i64 0)] 437 2
/-- railplan/route.Cells -/
def axk4 : Cut where
  f := 320
  n := 8283
  args := [(.agg #[(.slice none 0 0), (.slice none 0 0), (.slice (some ⟨7952, 0, none⟩) 2 FULL), (.slice (some ⟨8116, 0, none⟩) 1 FULL)]), (.agg #[(.slice (some ⟨7964, 0, none⟩) 2 FULL), (.int .i64 0)])]
  pre := [(7952, axb4), (8116, axb5), (7964, axb6)]
  v := (.tuple #[(.slice (some ⟨9590, 0, none⟩) 60 FULL), (.int .i64 40), (.int .i64 0)])
  post := [(9590, axb7), (7952, axb4), (8116, axb5), (7964, axb6)]
  n2 := 9612
  frame := [8275, 8276, 8277, 8278, 8267, 8268, 8269, 8259, 8260, 8261, 6243, 8140, 6247, 6948, 5289, 5548, 6245, 6234, 6249, 7848, 7973, 7979, 6946, 8177, 6280, 6896, 6957, 8135, 7847, 6258, 6257, 6273, 6274, 6253]
def axk4_h : Hook := (fun _ _ _ _ => none)
/-- railplan/route.Cells -/
def axk5 : Cut where
  f := 320
  n := 10009
  args := [(.agg #[(.slice none 0 0), (.slice none 0 0), (.slice (some ⟨7952, 0, none⟩) 2 FULL), (.slice (some ⟨8116, 0, none⟩) 1 FULL)]), (.agg #[(.slice (some ⟨7964, 0, none⟩) 2 FULL), (.int .i64 0)])]
  pre := [(7952, axb4), (8116, axb5), (7964, axb6)]
  v := (.tuple #[(.slice (some ⟨11316, 0, none⟩) 60 FULL), (.int .i64 40), (.int .i64 0)])
  post := [(11316, axb7), (7952, axb4), (8116, axb5), (7964, axb6)]
  n2 := 11338
  frame := [10001, 10002, 10003, 10004, 9993, 9994, 9995, 9985, 9986, 9987, 9976, 9977, 9978, 9979, 6243, 9925, 7848, 7973, 7979, 6948, 5289, 5548, 6245, 6234, 6249, 6247, 6946, 9926, 9934, 9945, 8140, 8177, 9913, 6280, 6896, 6957, 8135, 7847, 6258, 6257, 6273, 6274, 6253]
def axk5_h : Hook := (fun _ _ _ _ => none)
/-- railplan/route.Cells -/
def axk6 : Cut where
  f := 320
  n := 11719
  args := [(.agg #[(.slice none 0 0), (.slice none 0 0), (.slice (some ⟨7952, 0, none⟩) 2 FULL), (.slice (some ⟨8116, 0, none⟩) 1 FULL)]), (.agg #[(.slice (some ⟨7964, 0, none⟩) 2 FULL), (.int .i64 0)])]
  pre := [(7952, axb4), (8116, axb5), (7964, axb6)]
  v := (.tuple #[(.slice (some ⟨13026, 0, none⟩) 60 FULL), (.int .i64 40), (.int .i64 0)])
  post := [(13026, axb7), (7952, axb4), (8116, axb5), (7964, axb6)]
  n2 := 13048
  frame := [11711, 11712, 11713, 11714, 11700, 11701, 11702, 11659, 11660, 11661, 11662, 11672, 9976, 9977, 9978, 9979, 6243, 9925, 7848, 7973, 7979, 6948, 5289, 5548, 6245, 6234, 6249, 6247, 6946, 9926, 9934, 9945, 8140, 8177, 9913, 6280, 6896, 6957, 8135, 7847, 6258, 6257, 6273, 6274, 6253]
def axk6_h : Hook := (fun _ _ _ _ => none)
/-- railplan/dynamics.checkRun -/
def axk7 : Cut where
  f := 345
  n := 13187
  args := [(.slice (some ⟨13026, 0, none⟩) 60 FULL), (.int .i64 40), (.agg #[(.string ⟨#[]⟩), (.int .i64 20), (.int .i64 30000), (.int .i64 500), (.int .i64 500)])]
  pre := [(13026, axb7)]
  v := (.int .i64 0)
  post := [(13026, axb7)]
  n2 := 14752
  frame := [13180, 13173, 7952, 8116, 7964, 11700, 11701, 11702, 13162, 11659, 11660, 11661, 11662, 11672, 9976, 9977, 9978, 9979, 6243, 9925, 7848, 7973, 7979, 6948, 5289, 5548, 6245, 6234, 6249, 6247, 6946, 9926, 9934, 9945, 8140, 8177, 9913, 6280, 6896, 6957, 8135, 7847, 6258, 6257, 6273, 6274, 6253]
def axk7_h : Hook := (fun _ _ _ _ => none)
def axb8 : EBlk := .cells [(.int .i64 0), (.int .i64 10000000), (.int .i64 20000000), (.int .i64 30000000), (.int .i64 40000000), (.int .i64 50000000), (.int .i64 60000000), (.int .i64 70000000), (.int .i64 80000000), (.int .i64 90000000), (.int .i64 100000000), (.int .i64 90000000), (.int .i64 80000000), (.int .i64 70000000), (.int .i64 60000000), (.int .i64 50000000), (.int .i64 40000000), (.int .i64 30000000), (.int .i64 20000000), (.int .i64 10000000), (.int .i64 0)] 3 1
/-- railplan/dynamics.squares -/
def axk8 : Cut where
  f := 346
  n := 14759
  args := [(.slice (some ⟨13026, 0, none⟩) 60 FULL), (.int .i64 40), (.agg #[(.string ⟨#[]⟩), (.int .i64 20), (.int .i64 30000), (.int .i64 500), (.int .i64 500)])]
  pre := [(13026, axb7)]
  v := (.slice (some ⟨14768, 0, none⟩) 21 21)
  post := [(14768, axb8), (13026, axb7)]
  n2 := 22090
  frame := [13180, 13173, 7952, 8116, 7964, 11700, 11701, 11702, 13162, 11659, 11660, 11661, 11662, 11672, 9976, 9977, 9978, 9979, 6243, 9925, 7848, 7973, 7979, 6948, 5289, 5548, 6245, 6234, 6249, 6247, 6946, 9926, 9934, 9945, 8140, 8177, 9913, 6280, 6896, 6957, 8135, 7847, 6258, 6257, 6273, 6274, 6253]
def axk8_h : Hook := (fun _ _ _ _ => none)
def axb9 : EBlk := .cells [(.int .i64 0), (.int .i64 3162), (.int .i64 4472), (.int .i64 5477), (.int .i64 6324), (.int .i64 7071), (.int .i64 7745), (.int .i64 8366), (.int .i64 8944), (.int .i64 9486), (.int .i64 10000), (.int .i64 9486), (.int .i64 8944), (.int .i64 8366), (.int .i64 7745), (.int .i64 7071), (.int .i64 6324), (.int .i64 5477), (.int .i64 4472), (.int .i64 3162), (.int .i64 0)] 3 1
/-- railplan/dynamics.Speeds -/
def axk9 : Cut where
  f := 336
  n := 13180
  args := [(.slice (some ⟨13026, 0, none⟩) 60 FULL), (.int .i64 40), (.agg #[(.string ⟨#[]⟩), (.int .i64 20), (.int .i64 30000), (.int .i64 500), (.int .i64 500)])]
  pre := [(13026, axb7)]
  v := (.tuple #[(.slice (some ⟨14768, 0, none⟩) 21 21), (.int .i64 0)])
  post := [(14768, axb9), (13026, axb7)]
  n2 := 32193
  frame := [13173, 7952, 8116, 7964, 11700, 11701, 11702, 13162, 11659, 11660, 11661, 11662, 11672, 9976, 9977, 9978, 9979, 6243, 9925, 7848, 7973, 7979, 6948, 5289, 5548, 6245, 6234, 6249, 6247, 6946, 9926, 9934, 9945, 8140, 8177, 9913, 6280, 6896, 6957, 8135, 7847, 6258, 6257, 6273, 6274, 6253]
def axk9_h : Hook := (cutHook axk7 (cutHook axk8 (fun _ _ _ _ => none)))
def axb10 : EBlk := .cells [(.int .i64 0), (.int .i64 6326), (.int .i64 8946), (.int .i64 10957), (.int .i64 12652), (.int .i64 14146), (.int .i64 15496), (.int .i64 16738), (.int .i64 17894), (.int .i64 18980), (.int .i64 20007), (.int .i64 21034), (.int .i64 22120), (.int .i64 23276), (.int .i64 24518), (.int .i64 25868), (.int .i64 27362), (.int .i64 29057), (.int .i64 31068), (.int .i64 33688), (.int .i64 40014)] 3 1
/-- railplan/dynamics.Times -/
def axk10 : Cut where
  f := 331
  n := 13173
  args := [(.slice (some ⟨13026, 0, none⟩) 60 FULL), (.int .i64 40), (.agg #[(.string ⟨#[]⟩), (.int .i64 20), (.int .i64 30000), (.int .i64 500), (.int .i64 500)])]
  pre := [(13026, axb7)]
  v := (.tuple #[(.slice (some ⟨32202, 0, none⟩) 21 21), (.int .i64 0)])
  post := [(32202, axb10), (13026, axb7)]
  n2 := 33252
  frame := [7952, 8116, 7964, 11700, 11701, 11702, 13162, 11659, 11660, 11661, 11662, 11672, 9976, 9977, 9978, 9979, 6243, 9925, 7848, 7973, 7979, 6948, 5289, 5548, 6245, 6234, 6249, 6247, 6946, 9926, 9934, 9945, 8140, 8177, 9913, 6280, 6896, 6957, 8135, 7847, 6258, 6257, 6273, 6274, 6253]
def axk10_h : Hook := (cutHook axk9 (fun _ _ _ _ => none))
def axb11 : EBlk := .cells [(.slice none 0 0), (.slice none 0 0), (.slice (some ⟨5289, 0, none⟩) 2 FULL), (.slice (some ⟨5548, 0, none⟩) 1 FULL), (.slice (some ⟨6243, 0, none⟩) 1 1), (.slice (some ⟨6245, 0, none⟩) 1 1), (.slice (some ⟨6249, 0, none⟩) 1 1), (.slice (some ⟨7848, 0, none⟩) 1 FULL), (.map (some 6946)), (.slice none 0 0)] 205 1
def axb12 : EBlk := .cells [(.string ⟨#[]⟩), (.int .i64 20), (.int .i64 30000), (.int .i64 500), (.int .i64 500)] 109 1
def axb13 : EBlk := .cells [(.slice (some ⟨6234, 0, none⟩) 2 2), (.int .i64 0)] 107 1
def axb14 : EBlk := .cells [(.int .i64 0), (.int .i64 0), (.int .i64 1), (.int .i64 0)] 104 1
def axb15 : EBlk := .cells [(.int .i64 0), (.slice (some ⟨6247, 0, none⟩) 1 1)] 114 1
def axb16 : EBlk := .cells [(.int .i64 0), (.int .i64 100), (.int .i64 0)] 111 1
def axb17 : EBlk := .cells [(.slice (some ⟨7973, 0, none⟩) 2 FULL), (.slice (some ⟨7979, 0, none⟩) 2 FULL), (.int .i64 1), (.slice none 0 0), (.slice none 0 0), (.slice (some ⟨7952, 0, none⟩) 2 FULL), (.slice (some ⟨8116, 0, none⟩) 1 FULL), (.slice (some ⟨7964, 0, none⟩) 2 FULL), (.int .i64 0)] 208 9
def axb18 : EBlk := .cells [(.pointer (some ⟨7848, 0, none⟩)), (.int .i64 0), (.int .i64 0), (.int .i64 100), (.int .i64 0), (.int .i64 0), (.int .i64 41)] 272 7
def axb19 : EBlk := .map [((.agg #[(.int .i64 0), (.int .i64 0), (.int .i64 0), (.int .i64 1)]), (.agg #[(.int .i64 0), (.int .i64 1), (.slice (some ⟨33426, 0, none⟩) 1 FULL), (.slice (some ⟨33438, 0, none⟩) 1 FULL), (.slice (some ⟨33451, 0, none⟩) 1 FULL), (.int .i64 0), (.int .i64 41)]), 0)] 1
/-- (*railplan/operate.model).duties -/
def axk11 : Cut where
  f := 100
  n := 8140
  args := [(.pointer (some ⟨6948, 0, none⟩)), (.agg #[(.int .i64 0), (.slice (some ⟨6247, 0, none⟩) 1 1)])]
  pre := [(6948, axb11), (5289, axb4), (5548, axb5), (6243, axb12), (6245, axb13), (6234, axb14), (6249, axb15), (6247, axb16), (7848, axb17), (7973, .cells [(.int .i64 0), (.int .i64 1)] 3 1), (7979, .cells [(.int .i64 (-1)), (.int .i64 (-1))] 3 1), (7952, axb4), (8116, axb5), (7964, axb6), (6946, .map [] 0)]
  v := (.tuple #[(.slice (some ⟨33478, 0, none⟩) 1 FULL), (.int .i64 0)])
  post := [(33478, axb18), (7848, axb17), (7973, .cells [(.int .i64 0), (.int .i64 1)] 3 1), (7979, .cells [(.int .i64 (-1)), (.int .i64 (-1))] 3 1), (7952, axb4), (8116, axb5), (7964, axb6), (6948, axb11), (5289, axb4), (5548, axb5), (6243, axb12), (6245, axb13), (6234, axb14), (6249, axb15), (6247, axb16), (6946, axb19), (33426, .cells [(.int .i64 (-16))] 3 1), (33438, .cells [(.int .i64 0)] 3 1), (33451, .cells [(.int .i64 45)] 3 1)]
  n2 := 33508
  frame := [6280, 6896, 6957, 8135, 7847, 6258, 6257, 6273, 6274, 6253]
def axk11_h : Hook := (cutHook axk4 (cutHook axk5 (cutHook axk6 (cutHook axk10 (fun _ _ _ _ => none)))))
def axb20 : EBlk := .cells [(.slice none 0 0), (.slice none 0 0), (.slice (some ⟨5289, 0, none⟩) 2 FULL), (.slice (some ⟨5548, 0, none⟩) 1 FULL), (.slice (some ⟨6243, 0, none⟩) 1 1), (.slice (some ⟨6245, 0, none⟩) 1 1), (.slice (some ⟨6249, 0, none⟩) 1 1), (.slice (some ⟨7848, 0, none⟩) 1 FULL), (.map (some 6946)), (.slice (some ⟨33522, 0, none⟩) 1 FULL)] 205 1
def axb21 : EBlk := .cells [(.slice (some ⟨33478, 0, none⟩) 1 FULL)] 210 1
/-- railplan/operate.newModel -/
def axk12 : Cut where
  f := 60
  n := 6280
  args := [(.agg #[(.slice none 0 0), (.slice none 0 0), (.slice (some ⟨5289, 0, none⟩) 2 FULL), (.slice (some ⟨5548, 0, none⟩) 1 FULL), (.slice (some ⟨6243, 0, none⟩) 1 1), (.slice (some ⟨6245, 0, none⟩) 1 1), (.slice (some ⟨6249, 0, none⟩) 1 1)])]
  pre := [(5289, axb4), (5548, axb5), (6243, axb12), (6245, axb13), (6234, axb14), (6249, axb15), (6247, axb16)]
  v := (.tuple #[(.pointer (some ⟨6948, 0, none⟩)), (.int .i64 0)])
  post := [(6948, axb20), (5289, axb4), (5548, axb5), (6243, axb12), (6245, axb13), (6234, axb14), (6249, axb15), (6247, axb16), (7848, axb17), (7973, .cells [(.int .i64 0), (.int .i64 1)] 3 1), (7979, .cells [(.int .i64 (-1)), (.int .i64 (-1))] 3 1), (7952, axb4), (8116, axb5), (7964, axb6), (6946, axb19), (33426, .cells [(.int .i64 (-16))] 3 1), (33438, .cells [(.int .i64 0)] 3 1), (33451, .cells [(.int .i64 45)] 3 1), (33522, axb21), (33478, axb18)]
  n2 := 33532
  frame := [6258, 6257, 6273, 6274, 6253]
def axk12_h : Hook := (cutHook axk11 (fun _ _ _ _ => none))
/-- railplan/railplanref1.one -/
def axk13 : Cut where
  f := 33
  n := 34236
  args := [(.string ⟨#[115, 101, 99, 116, 105, 111, 110, 32, 65, 32, 52, 48, 32, 51, 48, 48, 48, 48, 32, 48]⟩), (.int .i64 1)]
  pre := []
  v := (.tuple #[(.slice (some ⟨35576, 0, none⟩) 5 FULL), (.int .i64 0)])
  post := [(35576, axb0)]
  n2 := 35597
  frame := [33940, 33938, 5289, 5548, 6243, 6245, 6234, 6249, 6247]
def axk13_h : Hook := (fun _ _ _ _ => none)
/-- railplan/railplanref1.one -/
def axk14 : Cut where
  f := 33
  n := 35900
  args := [(.string ⟨#[115, 101, 99, 116, 105, 111, 110, 32, 66, 32, 50, 48, 32, 51, 48, 48, 48, 48, 32, 48]⟩), (.int .i64 2)]
  pre := []
  v := (.tuple #[(.slice (some ⟨37240, 0, none⟩) 5 FULL), (.int .i64 0)])
  post := [(37240, axb1)]
  n2 := 37261
  frame := [35610, 35576, 35609, 33940, 33938, 5289, 5548, 6243, 6245, 6234, 6249, 6247]
def axk14_h : Hook := (fun _ _ _ _ => none)
def axb22 : EBlk := .cells [(.slice (some ⟨35576, 0, none⟩) 5 FULL), (.slice (some ⟨37240, 0, none⟩) 5 FULL), (.slice (some ⟨38152, 0, none⟩) 5 FULL)] 42 1
/-- railplan/railplanref1.Lines -/
def axk15 : Cut where
  f := 17
  n := 33945
  args := [(.string ⟨#[115, 101, 99, 116, 105, 111, 110, 32, 65, 32, 52, 48, 32, 51, 48, 48, 48, 48, 32, 48, 10, 115, 101, 99, 116, 105, 111, 110, 32, 66, 32, 50, 48, 32, 51, 48, 48, 48, 48, 32, 48, 10, 108, 105, 110, 107, 32, 65, 32, 66, 32, 66, 32, 65, 10]⟩)]
  pre := []
  v := (.tuple #[(.slice (some ⟨38186, 0, none⟩) 3 FULL), (.int .i64 0), (.int .i64 0)])
  post := [(38186, axb22), (35576, axb0), (37240, axb1), (38152, axb3)]
  n2 := 38202
  frame := [33940, 33938, 5289, 5548, 6243, 6245, 6234, 6249, 6247]
def axk15_h : Hook := (cutHook axk13 (cutHook axk14 (fun _ _ _ _ => none)))
/-- railplan/railplanref1.Parse -/
def axk16 : Cut where
  f := 42
  n := 33940
  args := [(.string ⟨#[115, 101, 99, 116, 105, 111, 110, 32, 65, 32, 52, 48, 32, 51, 48, 48, 48, 48, 32, 48, 10, 115, 101, 99, 116, 105, 111, 110, 32, 66, 32, 50, 48, 32, 51, 48, 48, 48, 48, 32, 48, 10, 108, 105, 110, 107, 32, 65, 32, 66, 32, 66, 32, 65, 10]⟩)]
  pre := []
  v := (.tuple #[(.agg #[(.slice none 0 0), (.slice none 0 0), (.slice (some ⟨39225, 0, none⟩) 2 FULL), (.slice (some ⟨39484, 0, none⟩) 1 FULL)]), (.int .i64 0), (.int .i64 0)])
  post := [(39225, axb4), (39484, axb5)]
  n2 := 40160
  frame := [33938, 5289, 5548, 6243, 6245, 6234, 6249, 6247]
def axk16_h : Hook := (cutHook axk15 (fun _ _ _ _ => none))
/-- railplan/railplanref6.Cells -/
def axk17 : Cut where
  f := 314
  n := 42071
  args := [(.agg #[(.slice none 0 0), (.slice none 0 0), (.slice (some ⟨39225, 0, none⟩) 2 FULL), (.slice (some ⟨39484, 0, none⟩) 1 FULL)]), (.agg #[(.slice (some ⟨40170, 0, none⟩) 2 2), (.int .i64 0)])]
  pre := [(39225, axb4), (39484, axb5), (40170, axb14)]
  v := (.tuple #[(.slice (some ⟨44021, 0, none⟩) 60 FULL), (.int .i64 40), (.int .i64 0)])
  post := [(44021, axb7), (39225, axb4), (39484, axb5), (40170, axb14)]
  n2 := 44058
  frame := [42064, 42065, 42066, 42056, 42057, 42058, 40179, 41991, 40183, 41984, 40181, 40185, 41998, 40199, 40881, 40957, 41950, 40195, 40189, 5289, 5548, 6243, 6245, 6234, 6249, 6247]
def axk17_h : Hook := (fun _ _ _ _ => none)
def axb23 : EBlk := .cells [(.slice (some ⟨40170, 0, none⟩) 2 2), (.int .i64 0)] 107 1
def axb24 : EBlk := .cells [(.int .i64 0), (.slice (some ⟨40183, 0, none⟩) 1 1)] 114 1
/-- railplan/railplanref39.Check -/
def axk18 : Cut where
  f := 70
  n := 40199
  args := [(.agg #[(.slice none 0 0), (.slice none 0 0), (.slice (some ⟨39225, 0, none⟩) 2 FULL), (.slice (some ⟨39484, 0, none⟩) 1 FULL), (.slice (some ⟨40179, 0, none⟩) 1 1), (.slice (some ⟨40181, 0, none⟩) 1 1), (.slice (some ⟨40185, 0, none⟩) 1 1)])]
  pre := [(39225, axb4), (39484, axb5), (40179, axb12), (40181, axb23), (40170, axb14), (40185, axb24), (40183, axb16)]
  v := (.int .i64 0)
  post := [(39225, axb4), (39484, axb5), (40179, axb12), (40181, axb23), (40170, axb14), (40185, axb24), (40183, axb16)]
  n2 := 44404
  frame := [40195, 40189, 5289, 5548, 6243, 6245, 6234, 6249, 6247]
def axk18_h : Hook := (cutHook axk17 (fun _ _ _ _ => none))
/-- railplan/railplanref6.Cells -/
def axk19 : Cut where
  f := 314
  n := 46307
  args := [(.agg #[(.slice none 0 0), (.slice none 0 0), (.slice (some ⟨39225, 0, none⟩) 2 FULL), (.slice (some ⟨39484, 0, none⟩) 1 FULL)]), (.agg #[(.slice (some ⟨40170, 0, none⟩) 2 2), (.int .i64 0)])]
  pre := [(39225, axb4), (39484, axb5), (40170, axb14)]
  v := (.tuple #[(.slice (some ⟨48257, 0, none⟩) 60 FULL), (.int .i64 40), (.int .i64 0)])
  post := [(48257, axb7), (39225, axb4), (39484, axb5), (40170, axb14)]
  n2 := 48294
  frame := [46300, 46301, 46302, 46292, 46293, 46294, 40179, 46227, 40183, 46220, 40181, 40185, 46234, 44435, 45117, 45193, 46186, 44430, 44425, 44420, 40189, 5289, 5548, 6243, 6245, 6234, 6249, 6247]
def axk19_h : Hook := (fun _ _ _ _ => none)
/-- railplan/railplanref39.Check -/
def axk20 : Cut where
  f := 70
  n := 44435
  args := [(.agg #[(.slice none 0 0), (.slice none 0 0), (.slice (some ⟨39225, 0, none⟩) 2 FULL), (.slice (some ⟨39484, 0, none⟩) 1 FULL), (.slice (some ⟨40179, 0, none⟩) 1 1), (.slice (some ⟨40181, 0, none⟩) 1 1), (.slice (some ⟨40185, 0, none⟩) 1 1)])]
  pre := [(39225, axb4), (39484, axb5), (40179, axb12), (40181, axb23), (40170, axb14), (40185, axb24), (40183, axb16)]
  v := (.int .i64 0)
  post := [(39225, axb4), (39484, axb5), (40179, axb12), (40181, axb23), (40170, axb14), (40185, axb24), (40183, axb16)]
  n2 := 48640
  frame := [44430, 44425, 44420, 40189, 5289, 5548, 6243, 6245, 6234, 6249, 6247]
def axk20_h : Hook := (cutHook axk19 (fun _ _ _ _ => none))
/-- railplan/railplanref6.Cells -/
def axk21 : Cut where
  f := 314
  n := 49995
  args := [(.agg #[(.slice none 0 0), (.slice none 0 0), (.slice (some ⟨39225, 0, none⟩) 2 FULL), (.slice (some ⟨39484, 0, none⟩) 1 FULL)]), (.agg #[(.slice (some ⟨40170, 0, none⟩) 2 2), (.int .i64 0)])]
  pre := [(39225, axb4), (39484, axb5), (40170, axb14)]
  v := (.tuple #[(.slice (some ⟨51945, 0, none⟩) 60 FULL), (.int .i64 40), (.int .i64 0)])
  post := [(51945, axb7), (39225, axb4), (39484, axb5), (40170, axb14)]
  n2 := 51982
  frame := [49988, 49989, 49990, 49980, 49981, 49982, 49971, 49972, 49973, 49974, 49968, 40179, 49942, 40183, 49935, 40181, 40185, 49936, 49889, 49890, 44430, 48652, 48664, 49863, 44425, 44420, 40189, 5289, 5548, 6243, 6245, 6234, 6249, 6247]
def axk21_h : Hook := (fun _ _ _ _ => none)
/-- railplan/railplanref6.Cells -/
def axk22 : Cut where
  f := 314
  n := 52351
  args := [(.agg #[(.slice none 0 0), (.slice none 0 0), (.slice (some ⟨39225, 0, none⟩) 2 FULL), (.slice (some ⟨39484, 0, none⟩) 1 FULL)]), (.agg #[(.slice (some ⟨52328, 0, none⟩) 2 FULL), (.int .i64 0)])]
  pre := [(39225, axb4), (39484, axb5), (52328, axb6)]
  v := (.tuple #[(.slice (some ⟨54301, 0, none⟩) 60 FULL), (.int .i64 40), (.int .i64 0)])
  post := [(54301, axb7), (39225, axb4), (39484, axb5), (52328, axb6)]
  n2 := 54338
  frame := [52344, 52345, 52346, 52333, 52334, 52335, 40170, 49971, 49972, 49973, 49974, 49968, 40179, 49942, 40183, 49935, 40181, 40185, 49936, 49889, 49890, 44430, 48652, 48664, 49863, 44425, 44420, 40189, 5289, 5548, 6243, 6245, 6234, 6249, 6247]
def axk22_h : Hook := (fun _ _ _ _ => none)
/-- railplan/railplanref6.Cells -/
def axk23 : Cut where
  f := 314
  n := 54479
  args := [(.agg #[(.slice none 0 0), (.slice none 0 0), (.slice (some ⟨39225, 0, none⟩) 2 FULL), (.slice (some ⟨39484, 0, none⟩) 1 FULL)]), (.agg #[(.slice (some ⟨52328, 0, none⟩) 2 FULL), (.int .i64 0)])]
  pre := [(39225, axb4), (39484, axb5), (52328, axb6)]
  v := (.tuple #[(.slice (some ⟨56429, 0, none⟩) 60 FULL), (.int .i64 40), (.int .i64 0)])
  post := [(56429, axb7), (39225, axb4), (39484, axb5), (52328, axb6)]
  n2 := 56466
  frame := [52333, 52334, 52335, 40170, 49971, 49972, 49973, 49974, 49968, 40179, 49942, 40183, 49935, 40181, 40185, 49936, 49889, 49890, 44430, 48652, 48664, 49863, 44425, 44420, 40189, 5289, 5548, 6243, 6245, 6234, 6249, 6247]
def axk23_h : Hook := (fun _ _ _ _ => none)
/-- railplan/railplanref6.bad -/
def axk24 : Cut where
  f := 338
  n := 56491
  args := [(.slice (some ⟨56429, 0, none⟩) 60 FULL), (.int .i64 40), (.agg #[(.string ⟨#[]⟩), (.int .i64 20), (.int .i64 30000), (.int .i64 500), (.int .i64 500)])]
  pre := [(56429, axb7)]
  v := (.int .i64 0)
  post := [(56429, axb7)]
  n2 := 59155
  frame := [56484, 56477, 39225, 39484, 52328, 52333, 52334, 52335, 40170, 49971, 49972, 49973, 49974, 49968, 40179, 49942, 40183, 49935, 40181, 40185, 49936, 49889, 49890, 44430, 48652, 48664, 49863, 44425, 44420, 40189, 5289, 5548, 6243, 6245, 6234, 6249, 6247]
def axk24_h : Hook := (fun _ _ _ _ => none)
/-- railplan/railplanref6.Speeds -/
def axk25 : Cut where
  f := 334
  n := 56484
  args := [(.slice (some ⟨56429, 0, none⟩) 60 FULL), (.int .i64 40), (.agg #[(.string ⟨#[]⟩), (.int .i64 20), (.int .i64 30000), (.int .i64 500), (.int .i64 500)])]
  pre := [(56429, axb7)]
  v := (.tuple #[(.slice (some ⟨59165, 0, none⟩) 21 21), (.int .i64 0)])
  post := [(59165, axb9), (56429, axb7)]
  n2 := 83660
  frame := [56477, 39225, 39484, 52328, 52333, 52334, 52335, 40170, 49971, 49972, 49973, 49974, 49968, 40179, 49942, 40183, 49935, 40181, 40185, 49936, 49889, 49890, 44430, 48652, 48664, 49863, 44425, 44420, 40189, 5289, 5548, 6243, 6245, 6234, 6249, 6247]
def axk25_h : Hook := (cutHook axk24 (fun _ _ _ _ => none))
/-- railplan/railplanref6.Times -/
def axk26 : Cut where
  f := 327
  n := 56477
  args := [(.slice (some ⟨56429, 0, none⟩) 60 FULL), (.int .i64 40), (.agg #[(.string ⟨#[]⟩), (.int .i64 20), (.int .i64 30000), (.int .i64 500), (.int .i64 500)])]
  pre := [(56429, axb7)]
  v := (.tuple #[(.slice (some ⟨83669, 0, none⟩) 21 21), (.int .i64 0)])
  post := [(83669, axb10), (56429, axb7)]
  n2 := 84519
  frame := [39225, 39484, 52328, 52333, 52334, 52335, 40170, 49971, 49972, 49973, 49974, 49968, 40179, 49942, 40183, 49935, 40181, 40185, 49936, 49889, 49890, 44430, 48652, 48664, 49863, 44425, 44420, 40189, 5289, 5548, 6243, 6245, 6234, 6249, 6247]
def axk26_h : Hook := (cutHook axk25 (fun _ _ _ _ => none))
def axb25 : EBlk := .cells [(.slice (some ⟨84816, 0, none⟩) 2 FULL)] 167 1
def axb26 : EBlk := .cells [(.int .i64 0), (.slice none 0 0), (.int .i64 60), (.int .i64 40), (.int .i64 1), (.slice none 0 0), (.int .i64 101), (.int .i64 100)] 171 4
/-- railplan/railplanref39.Paths -/
def axk27 : Cut where
  f := 73
  n := 44430
  args := [(.agg #[(.slice none 0 0), (.slice none 0 0), (.slice (some ⟨39225, 0, none⟩) 2 FULL), (.slice (some ⟨39484, 0, none⟩) 1 FULL), (.slice (some ⟨40179, 0, none⟩) 1 1), (.slice (some ⟨40181, 0, none⟩) 1 1), (.slice (some ⟨40185, 0, none⟩) 1 1)])]
  pre := [(39225, axb4), (39484, axb5), (40179, axb12), (40181, axb23), (40170, axb14), (40185, axb24), (40183, axb16)]
  v := (.tuple #[(.slice (some ⟨84827, 0, none⟩) 1 FULL), (.int .i64 0)])
  post := [(84827, axb25), (84816, axb26), (39225, axb4), (39484, axb5), (40179, axb12), (40181, axb23), (40170, axb14), (40185, axb24), (40183, axb16)]
  n2 := 84835
  frame := [44425, 44420, 40189, 5289, 5548, 6243, 6245, 6234, 6249, 6247]
def axk27_h : Hook := (cutHook axk20 (cutHook axk21 (cutHook axk22 (cutHook axk23 (cutHook axk26 (fun _ _ _ _ => none))))))
/-- railplan/railplanref6.Cells -/
def axk28 : Cut where
  f := 314
  n := 84982
  args := [(.agg #[(.slice none 0 0), (.slice none 0 0), (.slice (some ⟨39225, 0, none⟩) 2 FULL), (.slice (some ⟨39484, 0, none⟩) 1 FULL)]), (.agg #[(.slice (some ⟨40170, 0, none⟩) 2 2), (.int .i64 0)])]
  pre := [(39225, axb4), (39484, axb5), (40170, axb14)]
  v := (.tuple #[(.slice (some ⟨86932, 0, none⟩) 60 FULL), (.int .i64 40), (.int .i64 0)])
  post := [(86932, axb7), (39225, axb4), (39484, axb5), (40170, axb14)]
  n2 := 86969
  frame := [84975, 84976, 84977, 84967, 84968, 84969, 84958, 84959, 84960, 84961, 84955, 40179, 84929, 40183, 84922, 40181, 40185, 84923, 84876, 84877, 44425, 84827, 84816, 84851, 84869, 44420, 40189, 5289, 5548, 6243, 6245, 6234, 6249, 6247]
def axk28_h : Hook := (fun _ _ _ _ => none)
/-- railplan/railplanref6.Cells -/
def axk29 : Cut where
  f := 314
  n := 87338
  args := [(.agg #[(.slice none 0 0), (.slice none 0 0), (.slice (some ⟨39225, 0, none⟩) 2 FULL), (.slice (some ⟨39484, 0, none⟩) 1 FULL)]), (.agg #[(.slice (some ⟨87315, 0, none⟩) 2 FULL), (.int .i64 0)])]
  pre := [(39225, axb4), (39484, axb5), (87315, axb6)]
  v := (.tuple #[(.slice (some ⟨89288, 0, none⟩) 60 FULL), (.int .i64 40), (.int .i64 0)])
  post := [(89288, axb7), (39225, axb4), (39484, axb5), (87315, axb6)]
  n2 := 89325
  frame := [87331, 87332, 87333, 87320, 87321, 87322, 40170, 84958, 84959, 84960, 84961, 84955, 40179, 84929, 40183, 84922, 40181, 40185, 84923, 84876, 84877, 44425, 84827, 84816, 84851, 84869, 44420, 40189, 5289, 5548, 6243, 6245, 6234, 6249, 6247]
def axk29_h : Hook := (fun _ _ _ _ => none)
/-- railplan/railplanref6.Cells -/
def axk30 : Cut where
  f := 314
  n := 89466
  args := [(.agg #[(.slice none 0 0), (.slice none 0 0), (.slice (some ⟨39225, 0, none⟩) 2 FULL), (.slice (some ⟨39484, 0, none⟩) 1 FULL)]), (.agg #[(.slice (some ⟨87315, 0, none⟩) 2 FULL), (.int .i64 0)])]
  pre := [(39225, axb4), (39484, axb5), (87315, axb6)]
  v := (.tuple #[(.slice (some ⟨91416, 0, none⟩) 60 FULL), (.int .i64 40), (.int .i64 0)])
  post := [(91416, axb7), (39225, axb4), (39484, axb5), (87315, axb6)]
  n2 := 91453
  frame := [87320, 87321, 87322, 40170, 84958, 84959, 84960, 84961, 84955, 40179, 84929, 40183, 84922, 40181, 40185, 84923, 84876, 84877, 44425, 84827, 84816, 84851, 84869, 44420, 40189, 5289, 5548, 6243, 6245, 6234, 6249, 6247]
def axk30_h : Hook := (fun _ _ _ _ => none)
/-- railplan/railplanref6.bad -/
def axk31 : Cut where
  f := 338
  n := 91478
  args := [(.slice (some ⟨91416, 0, none⟩) 60 FULL), (.int .i64 40), (.agg #[(.string ⟨#[]⟩), (.int .i64 20), (.int .i64 30000), (.int .i64 500), (.int .i64 500)])]
  pre := [(91416, axb7)]
  v := (.int .i64 0)
  post := [(91416, axb7)]
  n2 := 94142
  frame := [91471, 91464, 39225, 39484, 87315, 87320, 87321, 87322, 40170, 84958, 84959, 84960, 84961, 84955, 40179, 84929, 40183, 84922, 40181, 40185, 84923, 84876, 84877, 44425, 84827, 84816, 84851, 84869, 44420, 40189, 5289, 5548, 6243, 6245, 6234, 6249, 6247]
def axk31_h : Hook := (fun _ _ _ _ => none)
/-- railplan/railplanref6.Speeds -/
def axk32 : Cut where
  f := 334
  n := 91471
  args := [(.slice (some ⟨91416, 0, none⟩) 60 FULL), (.int .i64 40), (.agg #[(.string ⟨#[]⟩), (.int .i64 20), (.int .i64 30000), (.int .i64 500), (.int .i64 500)])]
  pre := [(91416, axb7)]
  v := (.tuple #[(.slice (some ⟨94152, 0, none⟩) 21 21), (.int .i64 0)])
  post := [(94152, axb9), (91416, axb7)]
  n2 := 118647
  frame := [91464, 39225, 39484, 87315, 87320, 87321, 87322, 40170, 84958, 84959, 84960, 84961, 84955, 40179, 84929, 40183, 84922, 40181, 40185, 84923, 84876, 84877, 44425, 84827, 84816, 84851, 84869, 44420, 40189, 5289, 5548, 6243, 6245, 6234, 6249, 6247]
def axk32_h : Hook := (cutHook axk31 (fun _ _ _ _ => none))
/-- railplan/railplanref6.Times -/
def axk33 : Cut where
  f := 327
  n := 91464
  args := [(.slice (some ⟨91416, 0, none⟩) 60 FULL), (.int .i64 40), (.agg #[(.string ⟨#[]⟩), (.int .i64 20), (.int .i64 30000), (.int .i64 500), (.int .i64 500)])]
  pre := [(91416, axb7)]
  v := (.tuple #[(.slice (some ⟨118656, 0, none⟩) 21 21), (.int .i64 0)])
  post := [(118656, axb10), (91416, axb7)]
  n2 := 119506
  frame := [39225, 39484, 87315, 87320, 87321, 87322, 40170, 84958, 84959, 84960, 84961, 84955, 40179, 84929, 40183, 84922, 40181, 40185, 84923, 84876, 84877, 44425, 84827, 84816, 84851, 84869, 44420, 40189, 5289, 5548, 6243, 6245, 6234, 6249, 6247]
def axk33_h : Hook := (cutHook axk32 (fun _ _ _ _ => none))
def axb27 : EBlk := .cells [(.int .i64 0), (.int .i64 0), (.int .i64 0), (.int .i64 40), (.int .i64 145), (.int .i64 1), (.int .i64 0), (.int .i64 1), (.int .i64 84), (.int .i64 201)] 169 5
/-- railplan/railplanref39.Planned -/
def axk34 : Cut where
  f := 72
  n := 44425
  args := [(.agg #[(.slice none 0 0), (.slice none 0 0), (.slice (some ⟨39225, 0, none⟩) 2 FULL), (.slice (some ⟨39484, 0, none⟩) 1 FULL), (.slice (some ⟨40179, 0, none⟩) 1 1), (.slice (some ⟨40181, 0, none⟩) 1 1), (.slice (some ⟨40185, 0, none⟩) 1 1)])]
  pre := [(39225, axb4), (39484, axb5), (40179, axb12), (40181, axb23), (40170, axb14), (40185, axb24), (40183, axb16)]
  v := (.tuple #[(.slice (some ⟨119962, 0, none⟩) 2 FULL), (.int .i64 0)])
  post := [(119962, axb27), (39225, axb4), (39484, axb5), (40179, axb12), (40181, axb23), (40170, axb14), (40185, axb24), (40183, axb16)]
  n2 := 119979
  frame := [44420, 40189, 5289, 5548, 6243, 6245, 6234, 6249, 6247]
def axk34_h : Hook := (cutHook axk27 (cutHook axk28 (cutHook axk29 (cutHook axk30 (cutHook axk33 (fun _ _ _ _ => none))))))
/-- railplan/railplanref6.Cells -/
def axk35 : Cut where
  f := 314
  n := 121865
  args := [(.agg #[(.slice none 0 0), (.slice none 0 0), (.slice (some ⟨39225, 0, none⟩) 2 FULL), (.slice (some ⟨39484, 0, none⟩) 1 FULL)]), (.agg #[(.slice (some ⟨40170, 0, none⟩) 2 2), (.int .i64 0)])]
  pre := [(39225, axb4), (39484, axb5), (40170, axb14)]
  v := (.tuple #[(.slice (some ⟨123815, 0, none⟩) 60 FULL), (.int .i64 40), (.int .i64 0)])
  post := [(123815, axb7), (39225, axb4), (39484, axb5), (40170, axb14)]
  n2 := 123852
  frame := [121858, 121859, 121860, 121850, 121851, 121852, 40179, 121785, 40183, 121778, 40181, 40185, 121792, 119993, 120675, 120751, 121744, 119988, 44420, 119962, 40189, 5289, 5548, 6243, 6245, 6234, 6249, 6247]
def axk35_h : Hook := (fun _ _ _ _ => none)
/-- railplan/railplanref39.Check -/
def axk36 : Cut where
  f := 70
  n := 119993
  args := [(.agg #[(.slice none 0 0), (.slice none 0 0), (.slice (some ⟨39225, 0, none⟩) 2 FULL), (.slice (some ⟨39484, 0, none⟩) 1 FULL), (.slice (some ⟨40179, 0, none⟩) 1 1), (.slice (some ⟨40181, 0, none⟩) 1 1), (.slice (some ⟨40185, 0, none⟩) 1 1)])]
  pre := [(39225, axb4), (39484, axb5), (40179, axb12), (40181, axb23), (40170, axb14), (40185, axb24), (40183, axb16)]
  v := (.int .i64 0)
  post := [(39225, axb4), (39484, axb5), (40179, axb12), (40181, axb23), (40170, axb14), (40185, axb24), (40183, axb16)]
  n2 := 124198
  frame := [119988, 44420, 119962, 40189, 5289, 5548, 6243, 6245, 6234, 6249, 6247]
def axk36_h : Hook := (cutHook axk35 (fun _ _ _ _ => none))
/-- railplan/railplanref6.Cells -/
def axk37 : Cut where
  f := 314
  n := 125553
  args := [(.agg #[(.slice none 0 0), (.slice none 0 0), (.slice (some ⟨39225, 0, none⟩) 2 FULL), (.slice (some ⟨39484, 0, none⟩) 1 FULL)]), (.agg #[(.slice (some ⟨40170, 0, none⟩) 2 2), (.int .i64 0)])]
  pre := [(39225, axb4), (39484, axb5), (40170, axb14)]
  v := (.tuple #[(.slice (some ⟨127503, 0, none⟩) 60 FULL), (.int .i64 40), (.int .i64 0)])
  post := [(127503, axb7), (39225, axb4), (39484, axb5), (40170, axb14)]
  n2 := 127540
  frame := [125546, 125547, 125548, 125538, 125539, 125540, 125529, 125530, 125531, 125532, 125526, 40179, 125500, 40183, 125493, 40181, 40185, 125494, 125447, 125448, 119988, 124210, 124222, 125421, 44420, 119962, 40189, 5289, 5548, 6243, 6245, 6234, 6249, 6247]
def axk37_h : Hook := (fun _ _ _ _ => none)
/-- railplan/railplanref6.Cells -/
def axk38 : Cut where
  f := 314
  n := 127909
  args := [(.agg #[(.slice none 0 0), (.slice none 0 0), (.slice (some ⟨39225, 0, none⟩) 2 FULL), (.slice (some ⟨39484, 0, none⟩) 1 FULL)]), (.agg #[(.slice (some ⟨127886, 0, none⟩) 2 FULL), (.int .i64 0)])]
  pre := [(39225, axb4), (39484, axb5), (127886, axb6)]
  v := (.tuple #[(.slice (some ⟨129859, 0, none⟩) 60 FULL), (.int .i64 40), (.int .i64 0)])
  post := [(129859, axb7), (39225, axb4), (39484, axb5), (127886, axb6)]
  n2 := 129896
  frame := [127902, 127903, 127904, 127891, 127892, 127893, 40170, 125529, 125530, 125531, 125532, 125526, 40179, 125500, 40183, 125493, 40181, 40185, 125494, 125447, 125448, 119988, 124210, 124222, 125421, 44420, 119962, 40189, 5289, 5548, 6243, 6245, 6234, 6249, 6247]
def axk38_h : Hook := (fun _ _ _ _ => none)
/-- railplan/railplanref6.Cells -/
def axk39 : Cut where
  f := 314
  n := 130037
  args := [(.agg #[(.slice none 0 0), (.slice none 0 0), (.slice (some ⟨39225, 0, none⟩) 2 FULL), (.slice (some ⟨39484, 0, none⟩) 1 FULL)]), (.agg #[(.slice (some ⟨127886, 0, none⟩) 2 FULL), (.int .i64 0)])]
  pre := [(39225, axb4), (39484, axb5), (127886, axb6)]
  v := (.tuple #[(.slice (some ⟨131987, 0, none⟩) 60 FULL), (.int .i64 40), (.int .i64 0)])
  post := [(131987, axb7), (39225, axb4), (39484, axb5), (127886, axb6)]
  n2 := 132024
  frame := [127891, 127892, 127893, 40170, 125529, 125530, 125531, 125532, 125526, 40179, 125500, 40183, 125493, 40181, 40185, 125494, 125447, 125448, 119988, 124210, 124222, 125421, 44420, 119962, 40189, 5289, 5548, 6243, 6245, 6234, 6249, 6247]
def axk39_h : Hook := (fun _ _ _ _ => none)
/-- railplan/railplanref6.bad -/
def axk40 : Cut where
  f := 338
  n := 132049
  args := [(.slice (some ⟨131987, 0, none⟩) 60 FULL), (.int .i64 40), (.agg #[(.string ⟨#[]⟩), (.int .i64 20), (.int .i64 30000), (.int .i64 500), (.int .i64 500)])]
  pre := [(131987, axb7)]
  v := (.int .i64 0)
  post := [(131987, axb7)]
  n2 := 134713
  frame := [132042, 132035, 39225, 39484, 127886, 127891, 127892, 127893, 40170, 125529, 125530, 125531, 125532, 125526, 40179, 125500, 40183, 125493, 40181, 40185, 125494, 125447, 125448, 119988, 124210, 124222, 125421, 44420, 119962, 40189, 5289, 5548, 6243, 6245, 6234, 6249, 6247]
def axk40_h : Hook := (fun _ _ _ _ => none)
/-- railplan/railplanref6.Speeds -/
def axk41 : Cut where
  f := 334
  n := 132042
  args := [(.slice (some ⟨131987, 0, none⟩) 60 FULL), (.int .i64 40), (.agg #[(.string ⟨#[]⟩), (.int .i64 20), (.int .i64 30000), (.int .i64 500), (.int .i64 500)])]
  pre := [(131987, axb7)]
  v := (.tuple #[(.slice (some ⟨134723, 0, none⟩) 21 21), (.int .i64 0)])
  post := [(134723, axb9), (131987, axb7)]
  n2 := 159218
  frame := [132035, 39225, 39484, 127886, 127891, 127892, 127893, 40170, 125529, 125530, 125531, 125532, 125526, 40179, 125500, 40183, 125493, 40181, 40185, 125494, 125447, 125448, 119988, 124210, 124222, 125421, 44420, 119962, 40189, 5289, 5548, 6243, 6245, 6234, 6249, 6247]
def axk41_h : Hook := (cutHook axk40 (fun _ _ _ _ => none))
/-- railplan/railplanref6.Times -/
def axk42 : Cut where
  f := 327
  n := 132035
  args := [(.slice (some ⟨131987, 0, none⟩) 60 FULL), (.int .i64 40), (.agg #[(.string ⟨#[]⟩), (.int .i64 20), (.int .i64 30000), (.int .i64 500), (.int .i64 500)])]
  pre := [(131987, axb7)]
  v := (.tuple #[(.slice (some ⟨159227, 0, none⟩) 21 21), (.int .i64 0)])
  post := [(159227, axb10), (131987, axb7)]
  n2 := 160077
  frame := [39225, 39484, 127886, 127891, 127892, 127893, 40170, 125529, 125530, 125531, 125532, 125526, 40179, 125500, 40183, 125493, 40181, 40185, 125494, 125447, 125448, 119988, 124210, 124222, 125421, 44420, 119962, 40189, 5289, 5548, 6243, 6245, 6234, 6249, 6247]
def axk42_h : Hook := (cutHook axk41 (fun _ _ _ _ => none))
def axb28 : EBlk := .cells [(.slice (some ⟨160374, 0, none⟩) 2 FULL)] 167 1
/-- railplan/railplanref39.Paths -/
def axk43 : Cut where
  f := 73
  n := 119988
  args := [(.agg #[(.slice none 0 0), (.slice none 0 0), (.slice (some ⟨39225, 0, none⟩) 2 FULL), (.slice (some ⟨39484, 0, none⟩) 1 FULL), (.slice (some ⟨40179, 0, none⟩) 1 1), (.slice (some ⟨40181, 0, none⟩) 1 1), (.slice (some ⟨40185, 0, none⟩) 1 1)])]
  pre := [(39225, axb4), (39484, axb5), (40179, axb12), (40181, axb23), (40170, axb14), (40185, axb24), (40183, axb16)]
  v := (.tuple #[(.slice (some ⟨160385, 0, none⟩) 1 FULL), (.int .i64 0)])
  post := [(160385, axb28), (160374, axb26), (39225, axb4), (39484, axb5), (40179, axb12), (40181, axb23), (40170, axb14), (40185, axb24), (40183, axb16)]
  n2 := 160393
  frame := [44420, 119962, 40189, 5289, 5548, 6243, 6245, 6234, 6249, 6247]
def axk43_h : Hook := (cutHook axk36 (cutHook axk37 (cutHook axk38 (cutHook axk39 (cutHook axk42 (fun _ _ _ _ => none))))))
/-- railplan/railplanref35.Valid -/
def axk44 : Cut where
  f := 131
  n := 160510
  args := [(.slice (some ⟨160385, 0, none⟩) 1 FULL)]
  pre := [(160385, axb28), (160374, axb26)]
  v := (.bool true)
  post := [(160385, axb28), (160374, axb26)]
  n2 := 162593
  frame := [160494, 160411, 39225, 39484, 40179, 40181, 40170, 40185, 40183, 44420, 119962, 160498, 160456, 160493, 160497, 40189, 5289, 5548, 6243, 6245, 6234, 6249, 6247]
def axk44_h : Hook := (fun _ _ _ _ => none)
def axb29 : EBlk := .cells [(.slice (some ⟨160411, 0, none⟩) 2 2)] 23 1
def axb30 : EBlk := .cells [(.int .i64 0), (.slice (some ⟨162788, 0, none⟩) 1 FULL), (.int .i64 1), (.slice (some ⟨162955, 0, none⟩) 1 FULL)] 249 2
/-- railplan/railplanref35.Sort -/
def axk45 : Cut where
  f := 74
  n := 160506
  args := [(.slice (some ⟨160385, 0, none⟩) 1 FULL), (.slice (some ⟨160494, 0, none⟩) 1 FULL)]
  pre := [(160385, axb28), (160374, axb26), (160494, axb29), (160411, .cells [(.int .i64 40), (.int .i64 84)] 3 1)]
  v := (.tuple #[(.slice (some ⟨162974, 0, none⟩) 2 FULL), (.int .i64 0)])
  post := [(162974, axb30), (162788, .cells [(.int .i64 0), (.int .i64 0)] 247 2), (162955, .cells [(.int .i64 0), (.int .i64 1)] 247 2), (160385, axb28), (160374, axb26), (160494, axb29), (160411, .cells [(.int .i64 40), (.int .i64 84)] 3 1)]
  n2 := 177326
  frame := [39225, 39484, 40179, 40181, 40170, 40185, 40183, 44420, 119962, 160498, 160456, 160493, 160497, 40189, 5289, 5548, 6243, 6245, 6234, 6249, 6247]
def axk45_h : Hook := (cutHook axk44 (fun _ _ _ _ => none))
/-- railplan/railplanref35.Valid -/
def axk46 : Cut where
  f := 131
  n := 177343
  args := [(.slice (some ⟨160385, 0, none⟩) 1 FULL)]
  pre := [(160385, axb28), (160374, axb26)]
  v := (.bool true)
  post := [(160385, axb28), (160374, axb26)]
  n2 := 179426
  frame := [162974, 162788, 162955, 160498, 39225, 39484, 40179, 40181, 40170, 40185, 40183, 44420, 119962, 160494, 160411, 160456, 160493, 160497, 40189, 5289, 5548, 6243, 6245, 6234, 6249, 6247]
def axk46_h : Hook := (fun _ _ _ _ => none)
/-- railplan/railplanref35.Check -/
def axk47 : Cut where
  f := 133
  n := 177340
  args := [(.slice (some ⟨160385, 0, none⟩) 1 FULL), (.slice (some ⟨162974, 0, none⟩) 2 FULL)]
  pre := [(160385, axb28), (160374, axb26), (162974, axb30), (162788, .cells [(.int .i64 0), (.int .i64 0)] 247 2), (162955, .cells [(.int .i64 0), (.int .i64 1)] 247 2)]
  v := (.bool true)
  post := [(160385, axb28), (160374, axb26), (162974, axb30), (162788, .cells [(.int .i64 0), (.int .i64 0)] 247 2), (162955, .cells [(.int .i64 0), (.int .i64 1)] 247 2)]
  n2 := 193404
  frame := [160498, 39225, 39484, 40179, 40181, 40170, 40185, 40183, 44420, 119962, 160494, 160411, 160456, 160493, 160497, 40189, 5289, 5548, 6243, 6245, 6234, 6249, 6247]
def axk47_h : Hook := (cutHook axk46 (fun _ _ _ _ => none))
/-- railplan/railplanref6.Cells -/
def axk48 : Cut where
  f := 314
  n := 195951
  args := [(.agg #[(.slice none 0 0), (.slice none 0 0), (.slice (some ⟨39225, 0, none⟩) 2 FULL), (.slice (some ⟨39484, 0, none⟩) 1 FULL)]), (.agg #[(.slice (some ⟨40170, 0, none⟩) 2 2), (.int .i64 0)])]
  pre := [(39225, axb4), (39484, axb5), (40170, axb14)]
  v := (.tuple #[(.slice (some ⟨197901, 0, none⟩) 60 FULL), (.int .i64 40), (.int .i64 0)])
  post := [(197901, axb7), (39225, axb4), (39484, axb5), (40170, axb14)]
  n2 := 197938
  frame := [195944, 195945, 195946, 195936, 195937, 195938, 40179, 195871, 40183, 195864, 40181, 40185, 195878, 194079, 194761, 194837, 195830, 194074, 194064, 194069, 40189, 162974, 162788, 162955, 5289, 5548, 6243, 6245, 6234, 6249, 6247]
def axk48_h : Hook := (fun _ _ _ _ => none)
/-- railplan/railplanref39.Check -/
def axk49 : Cut where
  f := 70
  n := 194079
  args := [(.agg #[(.slice none 0 0), (.slice none 0 0), (.slice (some ⟨39225, 0, none⟩) 2 FULL), (.slice (some ⟨39484, 0, none⟩) 1 FULL), (.slice (some ⟨40179, 0, none⟩) 1 1), (.slice (some ⟨40181, 0, none⟩) 1 1), (.slice (some ⟨40185, 0, none⟩) 1 1)])]
  pre := [(39225, axb4), (39484, axb5), (40179, axb12), (40181, axb23), (40170, axb14), (40185, axb24), (40183, axb16)]
  v := (.int .i64 0)
  post := [(39225, axb4), (39484, axb5), (40179, axb12), (40181, axb23), (40170, axb14), (40185, axb24), (40183, axb16)]
  n2 := 198284
  frame := [194074, 194064, 194069, 40189, 162974, 162788, 162955, 5289, 5548, 6243, 6245, 6234, 6249, 6247]
def axk49_h : Hook := (cutHook axk48 (fun _ _ _ _ => none))
/-- railplan/railplanref6.Cells -/
def axk50 : Cut where
  f := 314
  n := 199639
  args := [(.agg #[(.slice none 0 0), (.slice none 0 0), (.slice (some ⟨39225, 0, none⟩) 2 FULL), (.slice (some ⟨39484, 0, none⟩) 1 FULL)]), (.agg #[(.slice (some ⟨40170, 0, none⟩) 2 2), (.int .i64 0)])]
  pre := [(39225, axb4), (39484, axb5), (40170, axb14)]
  v := (.tuple #[(.slice (some ⟨201589, 0, none⟩) 60 FULL), (.int .i64 40), (.int .i64 0)])
  post := [(201589, axb7), (39225, axb4), (39484, axb5), (40170, axb14)]
  n2 := 201626
  frame := [199632, 199633, 199634, 199624, 199625, 199626, 199615, 199616, 199617, 199618, 199612, 40179, 199586, 40183, 199579, 40181, 40185, 199580, 199533, 199534, 194074, 198296, 198308, 199507, 194064, 194069, 40189, 162974, 162788, 162955, 5289, 5548, 6243, 6245, 6234, 6249, 6247]
def axk50_h : Hook := (fun _ _ _ _ => none)
/-- railplan/railplanref6.Cells -/
def axk51 : Cut where
  f := 314
  n := 201995
  args := [(.agg #[(.slice none 0 0), (.slice none 0 0), (.slice (some ⟨39225, 0, none⟩) 2 FULL), (.slice (some ⟨39484, 0, none⟩) 1 FULL)]), (.agg #[(.slice (some ⟨201972, 0, none⟩) 2 FULL), (.int .i64 0)])]
  pre := [(39225, axb4), (39484, axb5), (201972, axb6)]
  v := (.tuple #[(.slice (some ⟨203945, 0, none⟩) 60 FULL), (.int .i64 40), (.int .i64 0)])
  post := [(203945, axb7), (39225, axb4), (39484, axb5), (201972, axb6)]
  n2 := 203982
  frame := [201988, 201989, 201990, 201977, 201978, 201979, 40170, 199615, 199616, 199617, 199618, 199612, 40179, 199586, 40183, 199579, 40181, 40185, 199580, 199533, 199534, 194074, 198296, 198308, 199507, 194064, 194069, 40189, 162974, 162788, 162955, 5289, 5548, 6243, 6245, 6234, 6249, 6247]
def axk51_h : Hook := (fun _ _ _ _ => none)
/-- railplan/railplanref6.Cells -/
def axk52 : Cut where
  f := 314
  n := 204123
  args := [(.agg #[(.slice none 0 0), (.slice none 0 0), (.slice (some ⟨39225, 0, none⟩) 2 FULL), (.slice (some ⟨39484, 0, none⟩) 1 FULL)]), (.agg #[(.slice (some ⟨201972, 0, none⟩) 2 FULL), (.int .i64 0)])]
  pre := [(39225, axb4), (39484, axb5), (201972, axb6)]
  v := (.tuple #[(.slice (some ⟨206073, 0, none⟩) 60 FULL), (.int .i64 40), (.int .i64 0)])
  post := [(206073, axb7), (39225, axb4), (39484, axb5), (201972, axb6)]
  n2 := 206110
  frame := [201977, 201978, 201979, 40170, 199615, 199616, 199617, 199618, 199612, 40179, 199586, 40183, 199579, 40181, 40185, 199580, 199533, 199534, 194074, 198296, 198308, 199507, 194064, 194069, 40189, 162974, 162788, 162955, 5289, 5548, 6243, 6245, 6234, 6249, 6247]
def axk52_h : Hook := (fun _ _ _ _ => none)
/-- railplan/railplanref6.bad -/
def axk53 : Cut where
  f := 338
  n := 206135
  args := [(.slice (some ⟨206073, 0, none⟩) 60 FULL), (.int .i64 40), (.agg #[(.string ⟨#[]⟩), (.int .i64 20), (.int .i64 30000), (.int .i64 500), (.int .i64 500)])]
  pre := [(206073, axb7)]
  v := (.int .i64 0)
  post := [(206073, axb7)]
  n2 := 208799
  frame := [206128, 206121, 39225, 39484, 201972, 201977, 201978, 201979, 40170, 199615, 199616, 199617, 199618, 199612, 40179, 199586, 40183, 199579, 40181, 40185, 199580, 199533, 199534, 194074, 198296, 198308, 199507, 194064, 194069, 40189, 162974, 162788, 162955, 5289, 5548, 6243, 6245, 6234, 6249, 6247]
def axk53_h : Hook := (fun _ _ _ _ => none)
/-- railplan/railplanref6.Speeds -/
def axk54 : Cut where
  f := 334
  n := 206128
  args := [(.slice (some ⟨206073, 0, none⟩) 60 FULL), (.int .i64 40), (.agg #[(.string ⟨#[]⟩), (.int .i64 20), (.int .i64 30000), (.int .i64 500), (.int .i64 500)])]
  pre := [(206073, axb7)]
  v := (.tuple #[(.slice (some ⟨208809, 0, none⟩) 21 21), (.int .i64 0)])
  post := [(208809, axb9), (206073, axb7)]
  n2 := 233304
  frame := [206121, 39225, 39484, 201972, 201977, 201978, 201979, 40170, 199615, 199616, 199617, 199618, 199612, 40179, 199586, 40183, 199579, 40181, 40185, 199580, 199533, 199534, 194074, 198296, 198308, 199507, 194064, 194069, 40189, 162974, 162788, 162955, 5289, 5548, 6243, 6245, 6234, 6249, 6247]
def axk54_h : Hook := (cutHook axk53 (fun _ _ _ _ => none))
/-- railplan/railplanref6.Times -/
def axk55 : Cut where
  f := 327
  n := 206121
  args := [(.slice (some ⟨206073, 0, none⟩) 60 FULL), (.int .i64 40), (.agg #[(.string ⟨#[]⟩), (.int .i64 20), (.int .i64 30000), (.int .i64 500), (.int .i64 500)])]
  pre := [(206073, axb7)]
  v := (.tuple #[(.slice (some ⟨233313, 0, none⟩) 21 21), (.int .i64 0)])
  post := [(233313, axb10), (206073, axb7)]
  n2 := 234163
  frame := [39225, 39484, 201972, 201977, 201978, 201979, 40170, 199615, 199616, 199617, 199618, 199612, 40179, 199586, 40183, 199579, 40181, 40185, 199580, 199533, 199534, 194074, 198296, 198308, 199507, 194064, 194069, 40189, 162974, 162788, 162955, 5289, 5548, 6243, 6245, 6234, 6249, 6247]
def axk55_h : Hook := (cutHook axk54 (fun _ _ _ _ => none))
def axb31 : EBlk := .cells [(.slice (some ⟨234460, 0, none⟩) 2 FULL)] 167 1
/-- railplan/railplanref39.Paths -/
def axk56 : Cut where
  f := 73
  n := 194074
  args := [(.agg #[(.slice none 0 0), (.slice none 0 0), (.slice (some ⟨39225, 0, none⟩) 2 FULL), (.slice (some ⟨39484, 0, none⟩) 1 FULL), (.slice (some ⟨40179, 0, none⟩) 1 1), (.slice (some ⟨40181, 0, none⟩) 1 1), (.slice (some ⟨40185, 0, none⟩) 1 1)])]
  pre := [(39225, axb4), (39484, axb5), (40179, axb12), (40181, axb23), (40170, axb14), (40185, axb24), (40183, axb16)]
  v := (.tuple #[(.slice (some ⟨234471, 0, none⟩) 1 FULL), (.int .i64 0)])
  post := [(234471, axb31), (234460, axb26), (39225, axb4), (39484, axb5), (40179, axb12), (40181, axb23), (40170, axb14), (40185, axb24), (40183, axb16)]
  n2 := 234479
  frame := [194064, 194069, 40189, 162974, 162788, 162955, 5289, 5548, 6243, 6245, 6234, 6249, 6247]
def axk56_h : Hook := (cutHook axk49 (cutHook axk50 (cutHook axk51 (cutHook axk52 (cutHook axk55 (fun _ _ _ _ => none))))))
def axb32 : EBlk := .cells [(.slice none 0 0), (.slice none 0 0), (.slice (some ⟨39225, 0, none⟩) 2 FULL), (.slice (some ⟨39484, 0, none⟩) 1 FULL), (.slice (some ⟨40179, 0, none⟩) 1 1), (.slice (some ⟨40181, 0, none⟩) 1 1), (.slice (some ⟨40185, 0, none⟩) 1 1), (.slice none 0 0), (.slice (some ⟨234471, 0, none⟩) 1 FULL), (.slice (some ⟨162974, 0, none⟩) 2 FULL), (.slice (some ⟨162974, 0, none⟩) 2 FULL), (.slice (some ⟨234497, 0, none⟩) 1 FULL), (.slice none 0 0), (.slice none 0 0), (.int .i64 40), (.slice none 0 0), (.bool false), (.slice none 0 0), (.slice none 0 0)] 125 1
def axb33 : EBlk := .cells [(.int .i64 (-1)), (.int .i64 0), (.int .i64 0), (.int .i64 0), (.int .i64 (-1)), (.int .i64 0), (.bool false), (.int .i64 (-1)), (.int .i64 0), (.int .i64 0), (.slice none 0 0), (.slice none 0 0), (.slice none 0 0), (.int .i64 0), (.int .i64 0)] 179 15
def axb34 : EBlk := .cells [(.slice none 0 0), (.slice none 0 0), (.slice (some ⟨39225, 0, none⟩) 2 FULL), (.slice (some ⟨39484, 0, none⟩) 1 FULL), (.slice (some ⟨40179, 0, none⟩) 1 1), (.slice (some ⟨40181, 0, none⟩) 1 1), (.slice (some ⟨40185, 0, none⟩) 1 1), (.slice none 0 0), (.slice (some ⟨234471, 0, none⟩) 1 FULL), (.slice (some ⟨162974, 0, none⟩) 2 FULL), (.slice (some ⟨162974, 0, none⟩) 2 FULL), (.slice (some ⟨234497, 0, none⟩) 1 FULL), (.slice (some ⟨248543, 0, none⟩) 1 FULL), (.slice none 0 0), (.int .i64 41), (.slice (some ⟨248513, 0, none⟩) 1 FULL), (.bool false), (.slice none 0 0), (.slice none 0 0)] 125 1
def axb35 : EBlk := .cells [(.int .i64 0), (.int .i64 0), (.int .i64 0), (.int .i64 100), (.int .i64 (-1)), (.int .i64 0), (.bool false), (.int .i64 (-1)), (.int .i64 0), (.int .i64 0), (.slice none 0 0), (.slice none 0 0), (.slice none 0 0), (.int .i64 0), (.int .i64 0)] 179 15
def axb36 : EBlk := .cells [(.int .i64 0), (.int .i64 0), (.int .i64 0), (.int .i64 (-1))] 256 4
def axb37 : EBlk := .cells [(.int .i64 40), (.int .i64 5), (.int .i64 0), (.int .i64 0), (.int .i64 0), (.int .i64 0)] 32 6
/-- (*railplan/railplanref39.Traffic).second -/
def axk57 : Cut where
  f := 47
  n := 248055
  args := [(.pointer (some ⟨194069, 0, none⟩))]
  pre := [(194069, axb32), (39225, axb4), (39484, axb5), (40179, axb12), (40181, axb23), (40170, axb14), (40185, axb24), (40183, axb16), (234471, axb31), (234460, axb26), (162974, axb30), (162788, .cells [(.int .i64 0), (.int .i64 0)] 247 2), (162955, .cells [(.int .i64 0), (.int .i64 1)] 247 2), (234497, axb33)]
  v := (.bool true)
  post := [(194069, axb34), (39225, axb4), (39484, axb5), (40179, axb12), (40181, axb23), (40170, axb14), (40185, axb24), (40183, axb16), (234471, axb31), (234460, axb26), (162974, axb30), (162788, .cells [(.int .i64 0), (.int .i64 0)] 247 2), (162955, .cells [(.int .i64 0), (.int .i64 1)] 247 2), (234497, axb35), (248543, axb36), (248513, axb37)]
  n2 := 248759
  frame := [40189, 5289, 5548, 6243, 6245, 6234, 6249, 6247]
def axk57_h : Hook := (fun _ _ _ _ => none)
def axb38 : EBlk := .cells [(.slice none 0 0), (.slice none 0 0), (.slice (some ⟨39225, 0, none⟩) 2 FULL), (.slice (some ⟨39484, 0, none⟩) 1 FULL), (.slice (some ⟨40179, 0, none⟩) 1 1), (.slice (some ⟨40181, 0, none⟩) 1 1), (.slice (some ⟨40185, 0, none⟩) 1 1), (.slice none 0 0), (.slice (some ⟨234471, 0, none⟩) 1 FULL), (.slice (some ⟨162974, 0, none⟩) 2 FULL), (.slice (some ⟨162974, 0, none⟩) 2 FULL), (.slice (some ⟨234497, 0, none⟩) 1 FULL), (.slice (some ⟨248841, 0, none⟩) 1 FULL), (.slice none 0 0), (.int .i64 42), (.slice (some ⟨248513, 0, none⟩) 1 FULL), (.bool false), (.slice none 0 0), (.slice none 0 0)] 125 1
/-- (*railplan/railplanref39.Traffic).second -/
def axk58 : Cut where
  f := 47
  n := 248793
  args := [(.pointer (some ⟨194069, 0, none⟩))]
  pre := [(194069, axb34), (39225, axb4), (39484, axb5), (40179, axb12), (40181, axb23), (40170, axb14), (40185, axb24), (40183, axb16), (234471, axb31), (234460, axb26), (162974, axb30), (162788, .cells [(.int .i64 0), (.int .i64 0)] 247 2), (162955, .cells [(.int .i64 0), (.int .i64 1)] 247 2), (234497, axb35), (248543, axb36), (248513, axb37)]
  v := (.bool true)
  post := [(194069, axb38), (39225, axb4), (39484, axb5), (40179, axb12), (40181, axb23), (40170, axb14), (40185, axb24), (40183, axb16), (234471, axb31), (234460, axb26), (162974, axb30), (162788, .cells [(.int .i64 0), (.int .i64 0)] 247 2), (162955, .cells [(.int .i64 0), (.int .i64 1)] 247 2), (234497, axb35), (248841, axb36), (248513, axb37)]
  n2 := 249142
  frame := [40189, 5289, 5548, 6243, 6245, 6234, 6249, 6247]
def axk58_h : Hook := (fun _ _ _ _ => none)
def axb39 : EBlk := .cells [(.slice none 0 0), (.slice none 0 0), (.slice (some ⟨39225, 0, none⟩) 2 FULL), (.slice (some ⟨39484, 0, none⟩) 1 FULL), (.slice (some ⟨40179, 0, none⟩) 1 1), (.slice (some ⟨40181, 0, none⟩) 1 1), (.slice (some ⟨40185, 0, none⟩) 1 1), (.slice none 0 0), (.slice (some ⟨234471, 0, none⟩) 1 FULL), (.slice (some ⟨162974, 0, none⟩) 2 FULL), (.slice (some ⟨162974, 0, none⟩) 2 FULL), (.slice (some ⟨234497, 0, none⟩) 1 FULL), (.slice (some ⟨249224, 0, none⟩) 1 FULL), (.slice none 0 0), (.int .i64 43), (.slice (some ⟨248513, 0, none⟩) 1 FULL), (.bool false), (.slice none 0 0), (.slice none 0 0)] 125 1
/-- (*railplan/railplanref39.Traffic).second -/
def axk59 : Cut where
  f := 47
  n := 249176
  args := [(.pointer (some ⟨194069, 0, none⟩))]
  pre := [(194069, axb38), (39225, axb4), (39484, axb5), (40179, axb12), (40181, axb23), (40170, axb14), (40185, axb24), (40183, axb16), (234471, axb31), (234460, axb26), (162974, axb30), (162788, .cells [(.int .i64 0), (.int .i64 0)] 247 2), (162955, .cells [(.int .i64 0), (.int .i64 1)] 247 2), (234497, axb35), (248841, axb36), (248513, axb37)]
  v := (.bool true)
  post := [(194069, axb39), (39225, axb4), (39484, axb5), (40179, axb12), (40181, axb23), (40170, axb14), (40185, axb24), (40183, axb16), (234471, axb31), (234460, axb26), (162974, axb30), (162788, .cells [(.int .i64 0), (.int .i64 0)] 247 2), (162955, .cells [(.int .i64 0), (.int .i64 1)] 247 2), (234497, axb35), (249224, axb36), (248513, axb37)]
  n2 := 249525
  frame := [40189, 5289, 5548, 6243, 6245, 6234, 6249, 6247]
def axk59_h : Hook := (fun _ _ _ _ => none)
def axb40 : EBlk := .cells [(.slice none 0 0), (.slice none 0 0), (.slice (some ⟨39225, 0, none⟩) 2 FULL), (.slice (some ⟨39484, 0, none⟩) 1 FULL), (.slice (some ⟨40179, 0, none⟩) 1 1), (.slice (some ⟨40181, 0, none⟩) 1 1), (.slice (some ⟨40185, 0, none⟩) 1 1), (.slice none 0 0), (.slice (some ⟨234471, 0, none⟩) 1 FULL), (.slice (some ⟨162974, 0, none⟩) 2 FULL), (.slice (some ⟨162974, 0, none⟩) 2 FULL), (.slice (some ⟨234497, 0, none⟩) 1 FULL), (.slice (some ⟨249607, 0, none⟩) 1 FULL), (.slice none 0 0), (.int .i64 44), (.slice (some ⟨248513, 0, none⟩) 1 FULL), (.bool false), (.slice none 0 0), (.slice none 0 0)] 125 1
/-- (*railplan/railplanref39.Traffic).second -/
def axk60 : Cut where
  f := 47
  n := 249559
  args := [(.pointer (some ⟨194069, 0, none⟩))]
  pre := [(194069, axb39), (39225, axb4), (39484, axb5), (40179, axb12), (40181, axb23), (40170, axb14), (40185, axb24), (40183, axb16), (234471, axb31), (234460, axb26), (162974, axb30), (162788, .cells [(.int .i64 0), (.int .i64 0)] 247 2), (162955, .cells [(.int .i64 0), (.int .i64 1)] 247 2), (234497, axb35), (249224, axb36), (248513, axb37)]
  v := (.bool true)
  post := [(194069, axb40), (39225, axb4), (39484, axb5), (40179, axb12), (40181, axb23), (40170, axb14), (40185, axb24), (40183, axb16), (234471, axb31), (234460, axb26), (162974, axb30), (162788, .cells [(.int .i64 0), (.int .i64 0)] 247 2), (162955, .cells [(.int .i64 0), (.int .i64 1)] 247 2), (234497, axb35), (249607, axb36), (248513, axb37)]
  n2 := 249908
  frame := [40189, 5289, 5548, 6243, 6245, 6234, 6249, 6247]
def axk60_h : Hook := (fun _ _ _ _ => none)
def axb41 : EBlk := .cells [(.slice none 0 0), (.slice none 0 0), (.slice (some ⟨39225, 0, none⟩) 2 FULL), (.slice (some ⟨39484, 0, none⟩) 1 FULL), (.slice (some ⟨40179, 0, none⟩) 1 1), (.slice (some ⟨40181, 0, none⟩) 1 1), (.slice (some ⟨40185, 0, none⟩) 1 1), (.slice none 0 0), (.slice (some ⟨234471, 0, none⟩) 1 FULL), (.slice (some ⟨162974, 0, none⟩) 2 FULL), (.slice (some ⟨162974, 0, none⟩) 2 FULL), (.slice (some ⟨234497, 0, none⟩) 1 FULL), (.slice (some ⟨249990, 0, none⟩) 1 FULL), (.slice none 0 0), (.int .i64 45), (.slice (some ⟨248513, 0, none⟩) 1 FULL), (.bool false), (.slice none 0 0), (.slice none 0 0)] 125 1
/-- (*railplan/railplanref39.Traffic).second -/
def axk61 : Cut where
  f := 47
  n := 249942
  args := [(.pointer (some ⟨194069, 0, none⟩))]
  pre := [(194069, axb40), (39225, axb4), (39484, axb5), (40179, axb12), (40181, axb23), (40170, axb14), (40185, axb24), (40183, axb16), (234471, axb31), (234460, axb26), (162974, axb30), (162788, .cells [(.int .i64 0), (.int .i64 0)] 247 2), (162955, .cells [(.int .i64 0), (.int .i64 1)] 247 2), (234497, axb35), (249607, axb36), (248513, axb37)]
  v := (.bool true)
  post := [(194069, axb41), (39225, axb4), (39484, axb5), (40179, axb12), (40181, axb23), (40170, axb14), (40185, axb24), (40183, axb16), (234471, axb31), (234460, axb26), (162974, axb30), (162788, .cells [(.int .i64 0), (.int .i64 0)] 247 2), (162955, .cells [(.int .i64 0), (.int .i64 1)] 247 2), (234497, axb35), (249990, axb36), (248513, axb37)]
  n2 := 250291
  frame := [40189, 5289, 5548, 6243, 6245, 6234, 6249, 6247]
def axk61_h : Hook := (fun _ _ _ _ => none)
def axb42 : EBlk := .cells [(.slice none 0 0), (.slice none 0 0), (.slice (some ⟨39225, 0, none⟩) 2 FULL), (.slice (some ⟨39484, 0, none⟩) 1 FULL), (.slice (some ⟨40179, 0, none⟩) 1 1), (.slice (some ⟨40181, 0, none⟩) 1 1), (.slice (some ⟨40185, 0, none⟩) 1 1), (.slice none 0 0), (.slice (some ⟨234471, 0, none⟩) 1 FULL), (.slice (some ⟨162974, 0, none⟩) 2 FULL), (.slice (some ⟨162974, 0, none⟩) 2 FULL), (.slice (some ⟨234497, 0, none⟩) 1 FULL), (.slice (some ⟨250373, 0, none⟩) 1 FULL), (.slice none 0 0), (.int .i64 46), (.slice (some ⟨248513, 0, none⟩) 1 FULL), (.bool false), (.slice none 0 0), (.slice none 0 0)] 125 1
/-- (*railplan/railplanref39.Traffic).second -/
def axk62 : Cut where
  f := 47
  n := 250325
  args := [(.pointer (some ⟨194069, 0, none⟩))]
  pre := [(194069, axb41), (39225, axb4), (39484, axb5), (40179, axb12), (40181, axb23), (40170, axb14), (40185, axb24), (40183, axb16), (234471, axb31), (234460, axb26), (162974, axb30), (162788, .cells [(.int .i64 0), (.int .i64 0)] 247 2), (162955, .cells [(.int .i64 0), (.int .i64 1)] 247 2), (234497, axb35), (249990, axb36), (248513, axb37)]
  v := (.bool true)
  post := [(194069, axb42), (39225, axb4), (39484, axb5), (40179, axb12), (40181, axb23), (40170, axb14), (40185, axb24), (40183, axb16), (234471, axb31), (234460, axb26), (162974, axb30), (162788, .cells [(.int .i64 0), (.int .i64 0)] 247 2), (162955, .cells [(.int .i64 0), (.int .i64 1)] 247 2), (234497, axb35), (250373, axb36), (248513, axb37)]
  n2 := 250674
  frame := [40189, 5289, 5548, 6243, 6245, 6234, 6249, 6247]
def axk62_h : Hook := (fun _ _ _ _ => none)
def axb43 : EBlk := .cells [(.slice none 0 0), (.slice none 0 0), (.slice (some ⟨39225, 0, none⟩) 2 FULL), (.slice (some ⟨39484, 0, none⟩) 1 FULL), (.slice (some ⟨40179, 0, none⟩) 1 1), (.slice (some ⟨40181, 0, none⟩) 1 1), (.slice (some ⟨40185, 0, none⟩) 1 1), (.slice none 0 0), (.slice (some ⟨234471, 0, none⟩) 1 FULL), (.slice (some ⟨162974, 0, none⟩) 2 FULL), (.slice (some ⟨162974, 0, none⟩) 2 FULL), (.slice (some ⟨234497, 0, none⟩) 1 FULL), (.slice (some ⟨250756, 0, none⟩) 1 FULL), (.slice none 0 0), (.int .i64 47), (.slice (some ⟨248513, 0, none⟩) 1 FULL), (.bool false), (.slice none 0 0), (.slice none 0 0)] 125 1
/-- (*railplan/railplanref39.Traffic).second -/
def axk63 : Cut where
  f := 47
  n := 250708
  args := [(.pointer (some ⟨194069, 0, none⟩))]
  pre := [(194069, axb42), (39225, axb4), (39484, axb5), (40179, axb12), (40181, axb23), (40170, axb14), (40185, axb24), (40183, axb16), (234471, axb31), (234460, axb26), (162974, axb30), (162788, .cells [(.int .i64 0), (.int .i64 0)] 247 2), (162955, .cells [(.int .i64 0), (.int .i64 1)] 247 2), (234497, axb35), (250373, axb36), (248513, axb37)]
  v := (.bool true)
  post := [(194069, axb43), (39225, axb4), (39484, axb5), (40179, axb12), (40181, axb23), (40170, axb14), (40185, axb24), (40183, axb16), (234471, axb31), (234460, axb26), (162974, axb30), (162788, .cells [(.int .i64 0), (.int .i64 0)] 247 2), (162955, .cells [(.int .i64 0), (.int .i64 1)] 247 2), (234497, axb35), (250756, axb36), (248513, axb37)]
  n2 := 251057
  frame := [40189, 5289, 5548, 6243, 6245, 6234, 6249, 6247]
def axk63_h : Hook := (fun _ _ _ _ => none)
def axb44 : EBlk := .cells [(.slice none 0 0), (.slice none 0 0), (.slice (some ⟨39225, 0, none⟩) 2 FULL), (.slice (some ⟨39484, 0, none⟩) 1 FULL), (.slice (some ⟨40179, 0, none⟩) 1 1), (.slice (some ⟨40181, 0, none⟩) 1 1), (.slice (some ⟨40185, 0, none⟩) 1 1), (.slice none 0 0), (.slice (some ⟨234471, 0, none⟩) 1 FULL), (.slice (some ⟨162974, 0, none⟩) 2 FULL), (.slice (some ⟨162974, 0, none⟩) 2 FULL), (.slice (some ⟨234497, 0, none⟩) 1 FULL), (.slice (some ⟨251139, 0, none⟩) 1 FULL), (.slice none 0 0), (.int .i64 48), (.slice (some ⟨248513, 0, none⟩) 1 FULL), (.bool false), (.slice none 0 0), (.slice none 0 0)] 125 1
/-- (*railplan/railplanref39.Traffic).second -/
def axk64 : Cut where
  f := 47
  n := 251091
  args := [(.pointer (some ⟨194069, 0, none⟩))]
  pre := [(194069, axb43), (39225, axb4), (39484, axb5), (40179, axb12), (40181, axb23), (40170, axb14), (40185, axb24), (40183, axb16), (234471, axb31), (234460, axb26), (162974, axb30), (162788, .cells [(.int .i64 0), (.int .i64 0)] 247 2), (162955, .cells [(.int .i64 0), (.int .i64 1)] 247 2), (234497, axb35), (250756, axb36), (248513, axb37)]
  v := (.bool true)
  post := [(194069, axb44), (39225, axb4), (39484, axb5), (40179, axb12), (40181, axb23), (40170, axb14), (40185, axb24), (40183, axb16), (234471, axb31), (234460, axb26), (162974, axb30), (162788, .cells [(.int .i64 0), (.int .i64 0)] 247 2), (162955, .cells [(.int .i64 0), (.int .i64 1)] 247 2), (234497, axb35), (251139, axb36), (248513, axb37)]
  n2 := 251440
  frame := [40189, 5289, 5548, 6243, 6245, 6234, 6249, 6247]
def axk64_h : Hook := (fun _ _ _ _ => none)
def axb45 : EBlk := .cells [(.slice none 0 0), (.slice none 0 0), (.slice (some ⟨39225, 0, none⟩) 2 FULL), (.slice (some ⟨39484, 0, none⟩) 1 FULL), (.slice (some ⟨40179, 0, none⟩) 1 1), (.slice (some ⟨40181, 0, none⟩) 1 1), (.slice (some ⟨40185, 0, none⟩) 1 1), (.slice none 0 0), (.slice (some ⟨234471, 0, none⟩) 1 FULL), (.slice (some ⟨162974, 0, none⟩) 2 FULL), (.slice (some ⟨162974, 0, none⟩) 2 FULL), (.slice (some ⟨234497, 0, none⟩) 1 FULL), (.slice (some ⟨251522, 0, none⟩) 1 FULL), (.slice none 0 0), (.int .i64 49), (.slice (some ⟨248513, 0, none⟩) 1 FULL), (.bool false), (.slice none 0 0), (.slice none 0 0)] 125 1
/-- (*railplan/railplanref39.Traffic).second -/
def axk65 : Cut where
  f := 47
  n := 251474
  args := [(.pointer (some ⟨194069, 0, none⟩))]
  pre := [(194069, axb44), (39225, axb4), (39484, axb5), (40179, axb12), (40181, axb23), (40170, axb14), (40185, axb24), (40183, axb16), (234471, axb31), (234460, axb26), (162974, axb30), (162788, .cells [(.int .i64 0), (.int .i64 0)] 247 2), (162955, .cells [(.int .i64 0), (.int .i64 1)] 247 2), (234497, axb35), (251139, axb36), (248513, axb37)]
  v := (.bool true)
  post := [(194069, axb45), (39225, axb4), (39484, axb5), (40179, axb12), (40181, axb23), (40170, axb14), (40185, axb24), (40183, axb16), (234471, axb31), (234460, axb26), (162974, axb30), (162788, .cells [(.int .i64 0), (.int .i64 0)] 247 2), (162955, .cells [(.int .i64 0), (.int .i64 1)] 247 2), (234497, axb35), (251522, axb36), (248513, axb37)]
  n2 := 251823
  frame := [40189, 5289, 5548, 6243, 6245, 6234, 6249, 6247]
def axk65_h : Hook := (fun _ _ _ _ => none)
def axb46 : EBlk := .cells [(.slice none 0 0), (.slice none 0 0), (.slice (some ⟨39225, 0, none⟩) 2 FULL), (.slice (some ⟨39484, 0, none⟩) 1 FULL), (.slice (some ⟨40179, 0, none⟩) 1 1), (.slice (some ⟨40181, 0, none⟩) 1 1), (.slice (some ⟨40185, 0, none⟩) 1 1), (.slice none 0 0), (.slice (some ⟨234471, 0, none⟩) 1 FULL), (.slice (some ⟨162974, 0, none⟩) 2 FULL), (.slice (some ⟨162974, 0, none⟩) 2 FULL), (.slice (some ⟨234497, 0, none⟩) 1 FULL), (.slice (some ⟨251905, 0, none⟩) 1 FULL), (.slice none 0 0), (.int .i64 50), (.slice (some ⟨248513, 0, none⟩) 1 FULL), (.bool false), (.slice none 0 0), (.slice none 0 0)] 125 1
/-- (*railplan/railplanref39.Traffic).second -/
def axk66 : Cut where
  f := 47
  n := 251857
  args := [(.pointer (some ⟨194069, 0, none⟩))]
  pre := [(194069, axb45), (39225, axb4), (39484, axb5), (40179, axb12), (40181, axb23), (40170, axb14), (40185, axb24), (40183, axb16), (234471, axb31), (234460, axb26), (162974, axb30), (162788, .cells [(.int .i64 0), (.int .i64 0)] 247 2), (162955, .cells [(.int .i64 0), (.int .i64 1)] 247 2), (234497, axb35), (251522, axb36), (248513, axb37)]
  v := (.bool true)
  post := [(194069, axb46), (39225, axb4), (39484, axb5), (40179, axb12), (40181, axb23), (40170, axb14), (40185, axb24), (40183, axb16), (234471, axb31), (234460, axb26), (162974, axb30), (162788, .cells [(.int .i64 0), (.int .i64 0)] 247 2), (162955, .cells [(.int .i64 0), (.int .i64 1)] 247 2), (234497, axb35), (251905, axb36), (248513, axb37)]
  n2 := 252206
  frame := [40189, 5289, 5548, 6243, 6245, 6234, 6249, 6247]
def axk66_h : Hook := (fun _ _ _ _ => none)
def axb47 : EBlk := .cells [(.slice none 0 0), (.slice none 0 0), (.slice (some ⟨39225, 0, none⟩) 2 FULL), (.slice (some ⟨39484, 0, none⟩) 1 FULL), (.slice (some ⟨40179, 0, none⟩) 1 1), (.slice (some ⟨40181, 0, none⟩) 1 1), (.slice (some ⟨40185, 0, none⟩) 1 1), (.slice none 0 0), (.slice (some ⟨234471, 0, none⟩) 1 FULL), (.slice (some ⟨162974, 0, none⟩) 2 FULL), (.slice (some ⟨162974, 0, none⟩) 2 FULL), (.slice (some ⟨234497, 0, none⟩) 1 FULL), (.slice (some ⟨252288, 0, none⟩) 1 FULL), (.slice none 0 0), (.int .i64 51), (.slice (some ⟨248513, 0, none⟩) 1 FULL), (.bool false), (.slice none 0 0), (.slice none 0 0)] 125 1
/-- (*railplan/railplanref39.Traffic).second -/
def axk67 : Cut where
  f := 47
  n := 252240
  args := [(.pointer (some ⟨194069, 0, none⟩))]
  pre := [(194069, axb46), (39225, axb4), (39484, axb5), (40179, axb12), (40181, axb23), (40170, axb14), (40185, axb24), (40183, axb16), (234471, axb31), (234460, axb26), (162974, axb30), (162788, .cells [(.int .i64 0), (.int .i64 0)] 247 2), (162955, .cells [(.int .i64 0), (.int .i64 1)] 247 2), (234497, axb35), (251905, axb36), (248513, axb37)]
  v := (.bool true)
  post := [(194069, axb47), (39225, axb4), (39484, axb5), (40179, axb12), (40181, axb23), (40170, axb14), (40185, axb24), (40183, axb16), (234471, axb31), (234460, axb26), (162974, axb30), (162788, .cells [(.int .i64 0), (.int .i64 0)] 247 2), (162955, .cells [(.int .i64 0), (.int .i64 1)] 247 2), (234497, axb35), (252288, axb36), (248513, axb37)]
  n2 := 252589
  frame := [40189, 5289, 5548, 6243, 6245, 6234, 6249, 6247]
def axk67_h : Hook := (fun _ _ _ _ => none)
def axb48 : EBlk := .cells [(.slice none 0 0), (.slice none 0 0), (.slice (some ⟨39225, 0, none⟩) 2 FULL), (.slice (some ⟨39484, 0, none⟩) 1 FULL), (.slice (some ⟨40179, 0, none⟩) 1 1), (.slice (some ⟨40181, 0, none⟩) 1 1), (.slice (some ⟨40185, 0, none⟩) 1 1), (.slice none 0 0), (.slice (some ⟨234471, 0, none⟩) 1 FULL), (.slice (some ⟨162974, 0, none⟩) 2 FULL), (.slice (some ⟨162974, 0, none⟩) 2 FULL), (.slice (some ⟨234497, 0, none⟩) 1 FULL), (.slice (some ⟨252671, 0, none⟩) 1 FULL), (.slice none 0 0), (.int .i64 52), (.slice (some ⟨248513, 0, none⟩) 1 FULL), (.bool false), (.slice none 0 0), (.slice none 0 0)] 125 1
/-- (*railplan/railplanref39.Traffic).second -/
def axk68 : Cut where
  f := 47
  n := 252623
  args := [(.pointer (some ⟨194069, 0, none⟩))]
  pre := [(194069, axb47), (39225, axb4), (39484, axb5), (40179, axb12), (40181, axb23), (40170, axb14), (40185, axb24), (40183, axb16), (234471, axb31), (234460, axb26), (162974, axb30), (162788, .cells [(.int .i64 0), (.int .i64 0)] 247 2), (162955, .cells [(.int .i64 0), (.int .i64 1)] 247 2), (234497, axb35), (252288, axb36), (248513, axb37)]
  v := (.bool true)
  post := [(194069, axb48), (39225, axb4), (39484, axb5), (40179, axb12), (40181, axb23), (40170, axb14), (40185, axb24), (40183, axb16), (234471, axb31), (234460, axb26), (162974, axb30), (162788, .cells [(.int .i64 0), (.int .i64 0)] 247 2), (162955, .cells [(.int .i64 0), (.int .i64 1)] 247 2), (234497, axb35), (252671, axb36), (248513, axb37)]
  n2 := 252972
  frame := [40189, 5289, 5548, 6243, 6245, 6234, 6249, 6247]
def axk68_h : Hook := (fun _ _ _ _ => none)
def axb49 : EBlk := .cells [(.slice none 0 0), (.slice none 0 0), (.slice (some ⟨39225, 0, none⟩) 2 FULL), (.slice (some ⟨39484, 0, none⟩) 1 FULL), (.slice (some ⟨40179, 0, none⟩) 1 1), (.slice (some ⟨40181, 0, none⟩) 1 1), (.slice (some ⟨40185, 0, none⟩) 1 1), (.slice none 0 0), (.slice (some ⟨234471, 0, none⟩) 1 FULL), (.slice (some ⟨162974, 0, none⟩) 2 FULL), (.slice (some ⟨162974, 0, none⟩) 2 FULL), (.slice (some ⟨234497, 0, none⟩) 1 FULL), (.slice (some ⟨253054, 0, none⟩) 1 FULL), (.slice none 0 0), (.int .i64 53), (.slice (some ⟨248513, 0, none⟩) 1 FULL), (.bool false), (.slice none 0 0), (.slice none 0 0)] 125 1
/-- (*railplan/railplanref39.Traffic).second -/
def axk69 : Cut where
  f := 47
  n := 253006
  args := [(.pointer (some ⟨194069, 0, none⟩))]
  pre := [(194069, axb48), (39225, axb4), (39484, axb5), (40179, axb12), (40181, axb23), (40170, axb14), (40185, axb24), (40183, axb16), (234471, axb31), (234460, axb26), (162974, axb30), (162788, .cells [(.int .i64 0), (.int .i64 0)] 247 2), (162955, .cells [(.int .i64 0), (.int .i64 1)] 247 2), (234497, axb35), (252671, axb36), (248513, axb37)]
  v := (.bool true)
  post := [(194069, axb49), (39225, axb4), (39484, axb5), (40179, axb12), (40181, axb23), (40170, axb14), (40185, axb24), (40183, axb16), (234471, axb31), (234460, axb26), (162974, axb30), (162788, .cells [(.int .i64 0), (.int .i64 0)] 247 2), (162955, .cells [(.int .i64 0), (.int .i64 1)] 247 2), (234497, axb35), (253054, axb36), (248513, axb37)]
  n2 := 253355
  frame := [40189, 5289, 5548, 6243, 6245, 6234, 6249, 6247]
def axk69_h : Hook := (fun _ _ _ _ => none)
def axb50 : EBlk := .cells [(.slice none 0 0), (.slice none 0 0), (.slice (some ⟨39225, 0, none⟩) 2 FULL), (.slice (some ⟨39484, 0, none⟩) 1 FULL), (.slice (some ⟨40179, 0, none⟩) 1 1), (.slice (some ⟨40181, 0, none⟩) 1 1), (.slice (some ⟨40185, 0, none⟩) 1 1), (.slice none 0 0), (.slice (some ⟨234471, 0, none⟩) 1 FULL), (.slice (some ⟨162974, 0, none⟩) 2 FULL), (.slice (some ⟨162974, 0, none⟩) 2 FULL), (.slice (some ⟨234497, 0, none⟩) 1 FULL), (.slice (some ⟨253437, 0, none⟩) 1 FULL), (.slice none 0 0), (.int .i64 54), (.slice (some ⟨248513, 0, none⟩) 1 FULL), (.bool false), (.slice none 0 0), (.slice none 0 0)] 125 1
/-- (*railplan/railplanref39.Traffic).second -/
def axk70 : Cut where
  f := 47
  n := 253389
  args := [(.pointer (some ⟨194069, 0, none⟩))]
  pre := [(194069, axb49), (39225, axb4), (39484, axb5), (40179, axb12), (40181, axb23), (40170, axb14), (40185, axb24), (40183, axb16), (234471, axb31), (234460, axb26), (162974, axb30), (162788, .cells [(.int .i64 0), (.int .i64 0)] 247 2), (162955, .cells [(.int .i64 0), (.int .i64 1)] 247 2), (234497, axb35), (253054, axb36), (248513, axb37)]
  v := (.bool true)
  post := [(194069, axb50), (39225, axb4), (39484, axb5), (40179, axb12), (40181, axb23), (40170, axb14), (40185, axb24), (40183, axb16), (234471, axb31), (234460, axb26), (162974, axb30), (162788, .cells [(.int .i64 0), (.int .i64 0)] 247 2), (162955, .cells [(.int .i64 0), (.int .i64 1)] 247 2), (234497, axb35), (253437, axb36), (248513, axb37)]
  n2 := 253738
  frame := [40189, 5289, 5548, 6243, 6245, 6234, 6249, 6247]
def axk70_h : Hook := (fun _ _ _ _ => none)
def axb51 : EBlk := .cells [(.slice none 0 0), (.slice none 0 0), (.slice (some ⟨39225, 0, none⟩) 2 FULL), (.slice (some ⟨39484, 0, none⟩) 1 FULL), (.slice (some ⟨40179, 0, none⟩) 1 1), (.slice (some ⟨40181, 0, none⟩) 1 1), (.slice (some ⟨40185, 0, none⟩) 1 1), (.slice none 0 0), (.slice (some ⟨234471, 0, none⟩) 1 FULL), (.slice (some ⟨162974, 0, none⟩) 2 FULL), (.slice (some ⟨162974, 0, none⟩) 2 FULL), (.slice (some ⟨234497, 0, none⟩) 1 FULL), (.slice (some ⟨253820, 0, none⟩) 1 FULL), (.slice none 0 0), (.int .i64 55), (.slice (some ⟨248513, 0, none⟩) 1 FULL), (.bool false), (.slice none 0 0), (.slice none 0 0)] 125 1
/-- (*railplan/railplanref39.Traffic).second -/
def axk71 : Cut where
  f := 47
  n := 253772
  args := [(.pointer (some ⟨194069, 0, none⟩))]
  pre := [(194069, axb50), (39225, axb4), (39484, axb5), (40179, axb12), (40181, axb23), (40170, axb14), (40185, axb24), (40183, axb16), (234471, axb31), (234460, axb26), (162974, axb30), (162788, .cells [(.int .i64 0), (.int .i64 0)] 247 2), (162955, .cells [(.int .i64 0), (.int .i64 1)] 247 2), (234497, axb35), (253437, axb36), (248513, axb37)]
  v := (.bool true)
  post := [(194069, axb51), (39225, axb4), (39484, axb5), (40179, axb12), (40181, axb23), (40170, axb14), (40185, axb24), (40183, axb16), (234471, axb31), (234460, axb26), (162974, axb30), (162788, .cells [(.int .i64 0), (.int .i64 0)] 247 2), (162955, .cells [(.int .i64 0), (.int .i64 1)] 247 2), (234497, axb35), (253820, axb36), (248513, axb37)]
  n2 := 254121
  frame := [40189, 5289, 5548, 6243, 6245, 6234, 6249, 6247]
def axk71_h : Hook := (fun _ _ _ _ => none)
def axb52 : EBlk := .cells [(.slice none 0 0), (.slice none 0 0), (.slice (some ⟨39225, 0, none⟩) 2 FULL), (.slice (some ⟨39484, 0, none⟩) 1 FULL), (.slice (some ⟨40179, 0, none⟩) 1 1), (.slice (some ⟨40181, 0, none⟩) 1 1), (.slice (some ⟨40185, 0, none⟩) 1 1), (.slice none 0 0), (.slice (some ⟨234471, 0, none⟩) 1 FULL), (.slice (some ⟨162974, 0, none⟩) 2 FULL), (.slice (some ⟨162974, 0, none⟩) 2 FULL), (.slice (some ⟨234497, 0, none⟩) 1 FULL), (.slice (some ⟨254203, 0, none⟩) 1 FULL), (.slice none 0 0), (.int .i64 56), (.slice (some ⟨248513, 0, none⟩) 1 FULL), (.bool false), (.slice none 0 0), (.slice none 0 0)] 125 1
/-- (*railplan/railplanref39.Traffic).second -/
def axk72 : Cut where
  f := 47
  n := 254155
  args := [(.pointer (some ⟨194069, 0, none⟩))]
  pre := [(194069, axb51), (39225, axb4), (39484, axb5), (40179, axb12), (40181, axb23), (40170, axb14), (40185, axb24), (40183, axb16), (234471, axb31), (234460, axb26), (162974, axb30), (162788, .cells [(.int .i64 0), (.int .i64 0)] 247 2), (162955, .cells [(.int .i64 0), (.int .i64 1)] 247 2), (234497, axb35), (253820, axb36), (248513, axb37)]
  v := (.bool true)
  post := [(194069, axb52), (39225, axb4), (39484, axb5), (40179, axb12), (40181, axb23), (40170, axb14), (40185, axb24), (40183, axb16), (234471, axb31), (234460, axb26), (162974, axb30), (162788, .cells [(.int .i64 0), (.int .i64 0)] 247 2), (162955, .cells [(.int .i64 0), (.int .i64 1)] 247 2), (234497, axb35), (254203, axb36), (248513, axb37)]
  n2 := 254504
  frame := [40189, 5289, 5548, 6243, 6245, 6234, 6249, 6247]
def axk72_h : Hook := (fun _ _ _ _ => none)
def axb53 : EBlk := .cells [(.slice none 0 0), (.slice none 0 0), (.slice (some ⟨39225, 0, none⟩) 2 FULL), (.slice (some ⟨39484, 0, none⟩) 1 FULL), (.slice (some ⟨40179, 0, none⟩) 1 1), (.slice (some ⟨40181, 0, none⟩) 1 1), (.slice (some ⟨40185, 0, none⟩) 1 1), (.slice none 0 0), (.slice (some ⟨234471, 0, none⟩) 1 FULL), (.slice (some ⟨162974, 0, none⟩) 2 FULL), (.slice (some ⟨162974, 0, none⟩) 2 FULL), (.slice (some ⟨234497, 0, none⟩) 1 FULL), (.slice (some ⟨254586, 0, none⟩) 1 FULL), (.slice none 0 0), (.int .i64 57), (.slice (some ⟨248513, 0, none⟩) 1 FULL), (.bool false), (.slice none 0 0), (.slice none 0 0)] 125 1
/-- (*railplan/railplanref39.Traffic).second -/
def axk73 : Cut where
  f := 47
  n := 254538
  args := [(.pointer (some ⟨194069, 0, none⟩))]
  pre := [(194069, axb52), (39225, axb4), (39484, axb5), (40179, axb12), (40181, axb23), (40170, axb14), (40185, axb24), (40183, axb16), (234471, axb31), (234460, axb26), (162974, axb30), (162788, .cells [(.int .i64 0), (.int .i64 0)] 247 2), (162955, .cells [(.int .i64 0), (.int .i64 1)] 247 2), (234497, axb35), (254203, axb36), (248513, axb37)]
  v := (.bool true)
  post := [(194069, axb53), (39225, axb4), (39484, axb5), (40179, axb12), (40181, axb23), (40170, axb14), (40185, axb24), (40183, axb16), (234471, axb31), (234460, axb26), (162974, axb30), (162788, .cells [(.int .i64 0), (.int .i64 0)] 247 2), (162955, .cells [(.int .i64 0), (.int .i64 1)] 247 2), (234497, axb35), (254586, axb36), (248513, axb37)]
  n2 := 254887
  frame := [40189, 5289, 5548, 6243, 6245, 6234, 6249, 6247]
def axk73_h : Hook := (fun _ _ _ _ => none)
def axb54 : EBlk := .cells [(.slice none 0 0), (.slice none 0 0), (.slice (some ⟨39225, 0, none⟩) 2 FULL), (.slice (some ⟨39484, 0, none⟩) 1 FULL), (.slice (some ⟨40179, 0, none⟩) 1 1), (.slice (some ⟨40181, 0, none⟩) 1 1), (.slice (some ⟨40185, 0, none⟩) 1 1), (.slice none 0 0), (.slice (some ⟨234471, 0, none⟩) 1 FULL), (.slice (some ⟨162974, 0, none⟩) 2 FULL), (.slice (some ⟨162974, 0, none⟩) 2 FULL), (.slice (some ⟨234497, 0, none⟩) 1 FULL), (.slice (some ⟨254969, 0, none⟩) 1 FULL), (.slice none 0 0), (.int .i64 58), (.slice (some ⟨248513, 0, none⟩) 1 FULL), (.bool false), (.slice none 0 0), (.slice none 0 0)] 125 1
/-- (*railplan/railplanref39.Traffic).second -/
def axk74 : Cut where
  f := 47
  n := 254921
  args := [(.pointer (some ⟨194069, 0, none⟩))]
  pre := [(194069, axb53), (39225, axb4), (39484, axb5), (40179, axb12), (40181, axb23), (40170, axb14), (40185, axb24), (40183, axb16), (234471, axb31), (234460, axb26), (162974, axb30), (162788, .cells [(.int .i64 0), (.int .i64 0)] 247 2), (162955, .cells [(.int .i64 0), (.int .i64 1)] 247 2), (234497, axb35), (254586, axb36), (248513, axb37)]
  v := (.bool true)
  post := [(194069, axb54), (39225, axb4), (39484, axb5), (40179, axb12), (40181, axb23), (40170, axb14), (40185, axb24), (40183, axb16), (234471, axb31), (234460, axb26), (162974, axb30), (162788, .cells [(.int .i64 0), (.int .i64 0)] 247 2), (162955, .cells [(.int .i64 0), (.int .i64 1)] 247 2), (234497, axb35), (254969, axb36), (248513, axb37)]
  n2 := 255270
  frame := [40189, 5289, 5548, 6243, 6245, 6234, 6249, 6247]
def axk74_h : Hook := (fun _ _ _ _ => none)
def axb55 : EBlk := .cells [(.slice none 0 0), (.slice none 0 0), (.slice (some ⟨39225, 0, none⟩) 2 FULL), (.slice (some ⟨39484, 0, none⟩) 1 FULL), (.slice (some ⟨40179, 0, none⟩) 1 1), (.slice (some ⟨40181, 0, none⟩) 1 1), (.slice (some ⟨40185, 0, none⟩) 1 1), (.slice none 0 0), (.slice (some ⟨234471, 0, none⟩) 1 FULL), (.slice (some ⟨162974, 0, none⟩) 2 FULL), (.slice (some ⟨162974, 0, none⟩) 2 FULL), (.slice (some ⟨234497, 0, none⟩) 1 FULL), (.slice (some ⟨255352, 0, none⟩) 1 FULL), (.slice none 0 0), (.int .i64 59), (.slice (some ⟨248513, 0, none⟩) 1 FULL), (.bool false), (.slice none 0 0), (.slice none 0 0)] 125 1
/-- (*railplan/railplanref39.Traffic).second -/
def axk75 : Cut where
  f := 47
  n := 255304
  args := [(.pointer (some ⟨194069, 0, none⟩))]
  pre := [(194069, axb54), (39225, axb4), (39484, axb5), (40179, axb12), (40181, axb23), (40170, axb14), (40185, axb24), (40183, axb16), (234471, axb31), (234460, axb26), (162974, axb30), (162788, .cells [(.int .i64 0), (.int .i64 0)] 247 2), (162955, .cells [(.int .i64 0), (.int .i64 1)] 247 2), (234497, axb35), (254969, axb36), (248513, axb37)]
  v := (.bool true)
  post := [(194069, axb55), (39225, axb4), (39484, axb5), (40179, axb12), (40181, axb23), (40170, axb14), (40185, axb24), (40183, axb16), (234471, axb31), (234460, axb26), (162974, axb30), (162788, .cells [(.int .i64 0), (.int .i64 0)] 247 2), (162955, .cells [(.int .i64 0), (.int .i64 1)] 247 2), (234497, axb35), (255352, axb36), (248513, axb37)]
  n2 := 255653
  frame := [40189, 5289, 5548, 6243, 6245, 6234, 6249, 6247]
def axk75_h : Hook := (fun _ _ _ _ => none)
def axb56 : EBlk := .cells [(.slice none 0 0), (.slice none 0 0), (.slice (some ⟨39225, 0, none⟩) 2 FULL), (.slice (some ⟨39484, 0, none⟩) 1 FULL), (.slice (some ⟨40179, 0, none⟩) 1 1), (.slice (some ⟨40181, 0, none⟩) 1 1), (.slice (some ⟨40185, 0, none⟩) 1 1), (.slice none 0 0), (.slice (some ⟨234471, 0, none⟩) 1 FULL), (.slice (some ⟨162974, 0, none⟩) 2 FULL), (.slice (some ⟨162974, 0, none⟩) 2 FULL), (.slice (some ⟨234497, 0, none⟩) 1 FULL), (.slice (some ⟨255735, 0, none⟩) 1 FULL), (.slice none 0 0), (.int .i64 60), (.slice (some ⟨248513, 0, none⟩) 1 FULL), (.bool false), (.slice none 0 0), (.slice none 0 0)] 125 1
/-- (*railplan/railplanref39.Traffic).second -/
def axk76 : Cut where
  f := 47
  n := 255687
  args := [(.pointer (some ⟨194069, 0, none⟩))]
  pre := [(194069, axb55), (39225, axb4), (39484, axb5), (40179, axb12), (40181, axb23), (40170, axb14), (40185, axb24), (40183, axb16), (234471, axb31), (234460, axb26), (162974, axb30), (162788, .cells [(.int .i64 0), (.int .i64 0)] 247 2), (162955, .cells [(.int .i64 0), (.int .i64 1)] 247 2), (234497, axb35), (255352, axb36), (248513, axb37)]
  v := (.bool true)
  post := [(194069, axb56), (39225, axb4), (39484, axb5), (40179, axb12), (40181, axb23), (40170, axb14), (40185, axb24), (40183, axb16), (234471, axb31), (234460, axb26), (162974, axb30), (162788, .cells [(.int .i64 0), (.int .i64 0)] 247 2), (162955, .cells [(.int .i64 0), (.int .i64 1)] 247 2), (234497, axb35), (255735, axb36), (248513, axb37)]
  n2 := 256036
  frame := [40189, 5289, 5548, 6243, 6245, 6234, 6249, 6247]
def axk76_h : Hook := (fun _ _ _ _ => none)
def axb57 : EBlk := .cells [(.slice none 0 0), (.slice none 0 0), (.slice (some ⟨39225, 0, none⟩) 2 FULL), (.slice (some ⟨39484, 0, none⟩) 1 FULL), (.slice (some ⟨40179, 0, none⟩) 1 1), (.slice (some ⟨40181, 0, none⟩) 1 1), (.slice (some ⟨40185, 0, none⟩) 1 1), (.slice none 0 0), (.slice (some ⟨234471, 0, none⟩) 1 FULL), (.slice (some ⟨162974, 0, none⟩) 2 FULL), (.slice (some ⟨162974, 0, none⟩) 2 FULL), (.slice (some ⟨234497, 0, none⟩) 1 FULL), (.slice (some ⟨256118, 0, none⟩) 1 FULL), (.slice none 0 0), (.int .i64 61), (.slice (some ⟨248513, 0, none⟩) 1 FULL), (.bool false), (.slice none 0 0), (.slice none 0 0)] 125 1
/-- (*railplan/railplanref39.Traffic).second -/
def axk77 : Cut where
  f := 47
  n := 256070
  args := [(.pointer (some ⟨194069, 0, none⟩))]
  pre := [(194069, axb56), (39225, axb4), (39484, axb5), (40179, axb12), (40181, axb23), (40170, axb14), (40185, axb24), (40183, axb16), (234471, axb31), (234460, axb26), (162974, axb30), (162788, .cells [(.int .i64 0), (.int .i64 0)] 247 2), (162955, .cells [(.int .i64 0), (.int .i64 1)] 247 2), (234497, axb35), (255735, axb36), (248513, axb37)]
  v := (.bool true)
  post := [(194069, axb57), (39225, axb4), (39484, axb5), (40179, axb12), (40181, axb23), (40170, axb14), (40185, axb24), (40183, axb16), (234471, axb31), (234460, axb26), (162974, axb30), (162788, .cells [(.int .i64 0), (.int .i64 0)] 247 2), (162955, .cells [(.int .i64 0), (.int .i64 1)] 247 2), (234497, axb35), (256118, axb36), (248513, axb37)]
  n2 := 256419
  frame := [40189, 5289, 5548, 6243, 6245, 6234, 6249, 6247]
def axk77_h : Hook := (fun _ _ _ _ => none)
def axb58 : EBlk := .cells [(.slice none 0 0), (.slice none 0 0), (.slice (some ⟨39225, 0, none⟩) 2 FULL), (.slice (some ⟨39484, 0, none⟩) 1 FULL), (.slice (some ⟨40179, 0, none⟩) 1 1), (.slice (some ⟨40181, 0, none⟩) 1 1), (.slice (some ⟨40185, 0, none⟩) 1 1), (.slice none 0 0), (.slice (some ⟨234471, 0, none⟩) 1 FULL), (.slice (some ⟨162974, 0, none⟩) 2 FULL), (.slice (some ⟨162974, 0, none⟩) 2 FULL), (.slice (some ⟨234497, 0, none⟩) 1 FULL), (.slice (some ⟨256501, 0, none⟩) 1 FULL), (.slice none 0 0), (.int .i64 62), (.slice (some ⟨248513, 0, none⟩) 1 FULL), (.bool false), (.slice none 0 0), (.slice none 0 0)] 125 1
/-- (*railplan/railplanref39.Traffic).second -/
def axk78 : Cut where
  f := 47
  n := 256453
  args := [(.pointer (some ⟨194069, 0, none⟩))]
  pre := [(194069, axb57), (39225, axb4), (39484, axb5), (40179, axb12), (40181, axb23), (40170, axb14), (40185, axb24), (40183, axb16), (234471, axb31), (234460, axb26), (162974, axb30), (162788, .cells [(.int .i64 0), (.int .i64 0)] 247 2), (162955, .cells [(.int .i64 0), (.int .i64 1)] 247 2), (234497, axb35), (256118, axb36), (248513, axb37)]
  v := (.bool true)
  post := [(194069, axb58), (39225, axb4), (39484, axb5), (40179, axb12), (40181, axb23), (40170, axb14), (40185, axb24), (40183, axb16), (234471, axb31), (234460, axb26), (162974, axb30), (162788, .cells [(.int .i64 0), (.int .i64 0)] 247 2), (162955, .cells [(.int .i64 0), (.int .i64 1)] 247 2), (234497, axb35), (256501, axb36), (248513, axb37)]
  n2 := 256802
  frame := [40189, 5289, 5548, 6243, 6245, 6234, 6249, 6247]
def axk78_h : Hook := (fun _ _ _ _ => none)
def axb59 : EBlk := .cells [(.slice none 0 0), (.slice none 0 0), (.slice (some ⟨39225, 0, none⟩) 2 FULL), (.slice (some ⟨39484, 0, none⟩) 1 FULL), (.slice (some ⟨40179, 0, none⟩) 1 1), (.slice (some ⟨40181, 0, none⟩) 1 1), (.slice (some ⟨40185, 0, none⟩) 1 1), (.slice none 0 0), (.slice (some ⟨234471, 0, none⟩) 1 FULL), (.slice (some ⟨162974, 0, none⟩) 2 FULL), (.slice (some ⟨162974, 0, none⟩) 2 FULL), (.slice (some ⟨234497, 0, none⟩) 1 FULL), (.slice (some ⟨256884, 0, none⟩) 1 FULL), (.slice none 0 0), (.int .i64 63), (.slice (some ⟨248513, 0, none⟩) 1 FULL), (.bool false), (.slice none 0 0), (.slice none 0 0)] 125 1
/-- (*railplan/railplanref39.Traffic).second -/
def axk79 : Cut where
  f := 47
  n := 256836
  args := [(.pointer (some ⟨194069, 0, none⟩))]
  pre := [(194069, axb58), (39225, axb4), (39484, axb5), (40179, axb12), (40181, axb23), (40170, axb14), (40185, axb24), (40183, axb16), (234471, axb31), (234460, axb26), (162974, axb30), (162788, .cells [(.int .i64 0), (.int .i64 0)] 247 2), (162955, .cells [(.int .i64 0), (.int .i64 1)] 247 2), (234497, axb35), (256501, axb36), (248513, axb37)]
  v := (.bool true)
  post := [(194069, axb59), (39225, axb4), (39484, axb5), (40179, axb12), (40181, axb23), (40170, axb14), (40185, axb24), (40183, axb16), (234471, axb31), (234460, axb26), (162974, axb30), (162788, .cells [(.int .i64 0), (.int .i64 0)] 247 2), (162955, .cells [(.int .i64 0), (.int .i64 1)] 247 2), (234497, axb35), (256884, axb36), (248513, axb37)]
  n2 := 257185
  frame := [40189, 5289, 5548, 6243, 6245, 6234, 6249, 6247]
def axk79_h : Hook := (fun _ _ _ _ => none)
def axb60 : EBlk := .cells [(.slice none 0 0), (.slice none 0 0), (.slice (some ⟨39225, 0, none⟩) 2 FULL), (.slice (some ⟨39484, 0, none⟩) 1 FULL), (.slice (some ⟨40179, 0, none⟩) 1 1), (.slice (some ⟨40181, 0, none⟩) 1 1), (.slice (some ⟨40185, 0, none⟩) 1 1), (.slice none 0 0), (.slice (some ⟨234471, 0, none⟩) 1 FULL), (.slice (some ⟨162974, 0, none⟩) 2 FULL), (.slice (some ⟨162974, 0, none⟩) 2 FULL), (.slice (some ⟨234497, 0, none⟩) 1 FULL), (.slice (some ⟨257267, 0, none⟩) 1 FULL), (.slice none 0 0), (.int .i64 64), (.slice (some ⟨248513, 0, none⟩) 1 FULL), (.bool false), (.slice none 0 0), (.slice none 0 0)] 125 1
/-- (*railplan/railplanref39.Traffic).second -/
def axk80 : Cut where
  f := 47
  n := 257219
  args := [(.pointer (some ⟨194069, 0, none⟩))]
  pre := [(194069, axb59), (39225, axb4), (39484, axb5), (40179, axb12), (40181, axb23), (40170, axb14), (40185, axb24), (40183, axb16), (234471, axb31), (234460, axb26), (162974, axb30), (162788, .cells [(.int .i64 0), (.int .i64 0)] 247 2), (162955, .cells [(.int .i64 0), (.int .i64 1)] 247 2), (234497, axb35), (256884, axb36), (248513, axb37)]
  v := (.bool true)
  post := [(194069, axb60), (39225, axb4), (39484, axb5), (40179, axb12), (40181, axb23), (40170, axb14), (40185, axb24), (40183, axb16), (234471, axb31), (234460, axb26), (162974, axb30), (162788, .cells [(.int .i64 0), (.int .i64 0)] 247 2), (162955, .cells [(.int .i64 0), (.int .i64 1)] 247 2), (234497, axb35), (257267, axb36), (248513, axb37)]
  n2 := 257568
  frame := [40189, 5289, 5548, 6243, 6245, 6234, 6249, 6247]
def axk80_h : Hook := (fun _ _ _ _ => none)
def axb61 : EBlk := .cells [(.slice none 0 0), (.slice none 0 0), (.slice (some ⟨39225, 0, none⟩) 2 FULL), (.slice (some ⟨39484, 0, none⟩) 1 FULL), (.slice (some ⟨40179, 0, none⟩) 1 1), (.slice (some ⟨40181, 0, none⟩) 1 1), (.slice (some ⟨40185, 0, none⟩) 1 1), (.slice none 0 0), (.slice (some ⟨234471, 0, none⟩) 1 FULL), (.slice (some ⟨162974, 0, none⟩) 2 FULL), (.slice (some ⟨162974, 0, none⟩) 2 FULL), (.slice (some ⟨234497, 0, none⟩) 1 FULL), (.slice (some ⟨257650, 0, none⟩) 1 FULL), (.slice none 0 0), (.int .i64 65), (.slice (some ⟨248513, 0, none⟩) 1 FULL), (.bool false), (.slice none 0 0), (.slice none 0 0)] 125 1
/-- (*railplan/railplanref39.Traffic).second -/
def axk81 : Cut where
  f := 47
  n := 257602
  args := [(.pointer (some ⟨194069, 0, none⟩))]
  pre := [(194069, axb60), (39225, axb4), (39484, axb5), (40179, axb12), (40181, axb23), (40170, axb14), (40185, axb24), (40183, axb16), (234471, axb31), (234460, axb26), (162974, axb30), (162788, .cells [(.int .i64 0), (.int .i64 0)] 247 2), (162955, .cells [(.int .i64 0), (.int .i64 1)] 247 2), (234497, axb35), (257267, axb36), (248513, axb37)]
  v := (.bool true)
  post := [(194069, axb61), (39225, axb4), (39484, axb5), (40179, axb12), (40181, axb23), (40170, axb14), (40185, axb24), (40183, axb16), (234471, axb31), (234460, axb26), (162974, axb30), (162788, .cells [(.int .i64 0), (.int .i64 0)] 247 2), (162955, .cells [(.int .i64 0), (.int .i64 1)] 247 2), (234497, axb35), (257650, axb36), (248513, axb37)]
  n2 := 257951
  frame := [40189, 5289, 5548, 6243, 6245, 6234, 6249, 6247]
def axk81_h : Hook := (fun _ _ _ _ => none)
def axb62 : EBlk := .cells [(.slice none 0 0), (.slice none 0 0), (.slice (some ⟨39225, 0, none⟩) 2 FULL), (.slice (some ⟨39484, 0, none⟩) 1 FULL), (.slice (some ⟨40179, 0, none⟩) 1 1), (.slice (some ⟨40181, 0, none⟩) 1 1), (.slice (some ⟨40185, 0, none⟩) 1 1), (.slice none 0 0), (.slice (some ⟨234471, 0, none⟩) 1 FULL), (.slice (some ⟨162974, 0, none⟩) 2 FULL), (.slice (some ⟨162974, 0, none⟩) 2 FULL), (.slice (some ⟨234497, 0, none⟩) 1 FULL), (.slice (some ⟨258033, 0, none⟩) 1 FULL), (.slice none 0 0), (.int .i64 66), (.slice (some ⟨248513, 0, none⟩) 1 FULL), (.bool false), (.slice none 0 0), (.slice none 0 0)] 125 1
/-- (*railplan/railplanref39.Traffic).second -/
def axk82 : Cut where
  f := 47
  n := 257985
  args := [(.pointer (some ⟨194069, 0, none⟩))]
  pre := [(194069, axb61), (39225, axb4), (39484, axb5), (40179, axb12), (40181, axb23), (40170, axb14), (40185, axb24), (40183, axb16), (234471, axb31), (234460, axb26), (162974, axb30), (162788, .cells [(.int .i64 0), (.int .i64 0)] 247 2), (162955, .cells [(.int .i64 0), (.int .i64 1)] 247 2), (234497, axb35), (257650, axb36), (248513, axb37)]
  v := (.bool true)
  post := [(194069, axb62), (39225, axb4), (39484, axb5), (40179, axb12), (40181, axb23), (40170, axb14), (40185, axb24), (40183, axb16), (234471, axb31), (234460, axb26), (162974, axb30), (162788, .cells [(.int .i64 0), (.int .i64 0)] 247 2), (162955, .cells [(.int .i64 0), (.int .i64 1)] 247 2), (234497, axb35), (258033, axb36), (248513, axb37)]
  n2 := 258334
  frame := [40189, 5289, 5548, 6243, 6245, 6234, 6249, 6247]
def axk82_h : Hook := (fun _ _ _ _ => none)
def axb63 : EBlk := .cells [(.slice none 0 0), (.slice none 0 0), (.slice (some ⟨39225, 0, none⟩) 2 FULL), (.slice (some ⟨39484, 0, none⟩) 1 FULL), (.slice (some ⟨40179, 0, none⟩) 1 1), (.slice (some ⟨40181, 0, none⟩) 1 1), (.slice (some ⟨40185, 0, none⟩) 1 1), (.slice none 0 0), (.slice (some ⟨234471, 0, none⟩) 1 FULL), (.slice (some ⟨162974, 0, none⟩) 2 FULL), (.slice (some ⟨162974, 0, none⟩) 2 FULL), (.slice (some ⟨234497, 0, none⟩) 1 FULL), (.slice (some ⟨258416, 0, none⟩) 1 FULL), (.slice none 0 0), (.int .i64 67), (.slice (some ⟨248513, 0, none⟩) 1 FULL), (.bool false), (.slice none 0 0), (.slice none 0 0)] 125 1
/-- (*railplan/railplanref39.Traffic).second -/
def axk83 : Cut where
  f := 47
  n := 258368
  args := [(.pointer (some ⟨194069, 0, none⟩))]
  pre := [(194069, axb62), (39225, axb4), (39484, axb5), (40179, axb12), (40181, axb23), (40170, axb14), (40185, axb24), (40183, axb16), (234471, axb31), (234460, axb26), (162974, axb30), (162788, .cells [(.int .i64 0), (.int .i64 0)] 247 2), (162955, .cells [(.int .i64 0), (.int .i64 1)] 247 2), (234497, axb35), (258033, axb36), (248513, axb37)]
  v := (.bool true)
  post := [(194069, axb63), (39225, axb4), (39484, axb5), (40179, axb12), (40181, axb23), (40170, axb14), (40185, axb24), (40183, axb16), (234471, axb31), (234460, axb26), (162974, axb30), (162788, .cells [(.int .i64 0), (.int .i64 0)] 247 2), (162955, .cells [(.int .i64 0), (.int .i64 1)] 247 2), (234497, axb35), (258416, axb36), (248513, axb37)]
  n2 := 258717
  frame := [40189, 5289, 5548, 6243, 6245, 6234, 6249, 6247]
def axk83_h : Hook := (fun _ _ _ _ => none)
def axb64 : EBlk := .cells [(.slice none 0 0), (.slice none 0 0), (.slice (some ⟨39225, 0, none⟩) 2 FULL), (.slice (some ⟨39484, 0, none⟩) 1 FULL), (.slice (some ⟨40179, 0, none⟩) 1 1), (.slice (some ⟨40181, 0, none⟩) 1 1), (.slice (some ⟨40185, 0, none⟩) 1 1), (.slice none 0 0), (.slice (some ⟨234471, 0, none⟩) 1 FULL), (.slice (some ⟨162974, 0, none⟩) 2 FULL), (.slice (some ⟨162974, 0, none⟩) 2 FULL), (.slice (some ⟨234497, 0, none⟩) 1 FULL), (.slice (some ⟨258799, 0, none⟩) 1 FULL), (.slice none 0 0), (.int .i64 68), (.slice (some ⟨248513, 0, none⟩) 1 FULL), (.bool false), (.slice none 0 0), (.slice none 0 0)] 125 1
/-- (*railplan/railplanref39.Traffic).second -/
def axk84 : Cut where
  f := 47
  n := 258751
  args := [(.pointer (some ⟨194069, 0, none⟩))]
  pre := [(194069, axb63), (39225, axb4), (39484, axb5), (40179, axb12), (40181, axb23), (40170, axb14), (40185, axb24), (40183, axb16), (234471, axb31), (234460, axb26), (162974, axb30), (162788, .cells [(.int .i64 0), (.int .i64 0)] 247 2), (162955, .cells [(.int .i64 0), (.int .i64 1)] 247 2), (234497, axb35), (258416, axb36), (248513, axb37)]
  v := (.bool true)
  post := [(194069, axb64), (39225, axb4), (39484, axb5), (40179, axb12), (40181, axb23), (40170, axb14), (40185, axb24), (40183, axb16), (234471, axb31), (234460, axb26), (162974, axb30), (162788, .cells [(.int .i64 0), (.int .i64 0)] 247 2), (162955, .cells [(.int .i64 0), (.int .i64 1)] 247 2), (234497, axb35), (258799, axb36), (248513, axb37)]
  n2 := 259100
  frame := [40189, 5289, 5548, 6243, 6245, 6234, 6249, 6247]
def axk84_h : Hook := (fun _ _ _ _ => none)
def axb65 : EBlk := .cells [(.slice none 0 0), (.slice none 0 0), (.slice (some ⟨39225, 0, none⟩) 2 FULL), (.slice (some ⟨39484, 0, none⟩) 1 FULL), (.slice (some ⟨40179, 0, none⟩) 1 1), (.slice (some ⟨40181, 0, none⟩) 1 1), (.slice (some ⟨40185, 0, none⟩) 1 1), (.slice none 0 0), (.slice (some ⟨234471, 0, none⟩) 1 FULL), (.slice (some ⟨162974, 0, none⟩) 2 FULL), (.slice (some ⟨162974, 0, none⟩) 2 FULL), (.slice (some ⟨234497, 0, none⟩) 1 FULL), (.slice (some ⟨259182, 0, none⟩) 1 FULL), (.slice none 0 0), (.int .i64 69), (.slice (some ⟨248513, 0, none⟩) 1 FULL), (.bool false), (.slice none 0 0), (.slice none 0 0)] 125 1
/-- (*railplan/railplanref39.Traffic).second -/
def axk85 : Cut where
  f := 47
  n := 259134
  args := [(.pointer (some ⟨194069, 0, none⟩))]
  pre := [(194069, axb64), (39225, axb4), (39484, axb5), (40179, axb12), (40181, axb23), (40170, axb14), (40185, axb24), (40183, axb16), (234471, axb31), (234460, axb26), (162974, axb30), (162788, .cells [(.int .i64 0), (.int .i64 0)] 247 2), (162955, .cells [(.int .i64 0), (.int .i64 1)] 247 2), (234497, axb35), (258799, axb36), (248513, axb37)]
  v := (.bool true)
  post := [(194069, axb65), (39225, axb4), (39484, axb5), (40179, axb12), (40181, axb23), (40170, axb14), (40185, axb24), (40183, axb16), (234471, axb31), (234460, axb26), (162974, axb30), (162788, .cells [(.int .i64 0), (.int .i64 0)] 247 2), (162955, .cells [(.int .i64 0), (.int .i64 1)] 247 2), (234497, axb35), (259182, axb36), (248513, axb37)]
  n2 := 259483
  frame := [40189, 5289, 5548, 6243, 6245, 6234, 6249, 6247]
def axk85_h : Hook := (fun _ _ _ _ => none)
def axb66 : EBlk := .cells [(.slice none 0 0), (.slice none 0 0), (.slice (some ⟨39225, 0, none⟩) 2 FULL), (.slice (some ⟨39484, 0, none⟩) 1 FULL), (.slice (some ⟨40179, 0, none⟩) 1 1), (.slice (some ⟨40181, 0, none⟩) 1 1), (.slice (some ⟨40185, 0, none⟩) 1 1), (.slice none 0 0), (.slice (some ⟨234471, 0, none⟩) 1 FULL), (.slice (some ⟨162974, 0, none⟩) 2 FULL), (.slice (some ⟨162974, 0, none⟩) 2 FULL), (.slice (some ⟨234497, 0, none⟩) 1 FULL), (.slice (some ⟨259565, 0, none⟩) 1 FULL), (.slice none 0 0), (.int .i64 70), (.slice (some ⟨248513, 0, none⟩) 1 FULL), (.bool false), (.slice none 0 0), (.slice none 0 0)] 125 1
/-- (*railplan/railplanref39.Traffic).second -/
def axk86 : Cut where
  f := 47
  n := 259517
  args := [(.pointer (some ⟨194069, 0, none⟩))]
  pre := [(194069, axb65), (39225, axb4), (39484, axb5), (40179, axb12), (40181, axb23), (40170, axb14), (40185, axb24), (40183, axb16), (234471, axb31), (234460, axb26), (162974, axb30), (162788, .cells [(.int .i64 0), (.int .i64 0)] 247 2), (162955, .cells [(.int .i64 0), (.int .i64 1)] 247 2), (234497, axb35), (259182, axb36), (248513, axb37)]
  v := (.bool true)
  post := [(194069, axb66), (39225, axb4), (39484, axb5), (40179, axb12), (40181, axb23), (40170, axb14), (40185, axb24), (40183, axb16), (234471, axb31), (234460, axb26), (162974, axb30), (162788, .cells [(.int .i64 0), (.int .i64 0)] 247 2), (162955, .cells [(.int .i64 0), (.int .i64 1)] 247 2), (234497, axb35), (259565, axb36), (248513, axb37)]
  n2 := 259866
  frame := [40189, 5289, 5548, 6243, 6245, 6234, 6249, 6247]
def axk86_h : Hook := (fun _ _ _ _ => none)
def axb67 : EBlk := .cells [(.slice none 0 0), (.slice none 0 0), (.slice (some ⟨39225, 0, none⟩) 2 FULL), (.slice (some ⟨39484, 0, none⟩) 1 FULL), (.slice (some ⟨40179, 0, none⟩) 1 1), (.slice (some ⟨40181, 0, none⟩) 1 1), (.slice (some ⟨40185, 0, none⟩) 1 1), (.slice none 0 0), (.slice (some ⟨234471, 0, none⟩) 1 FULL), (.slice (some ⟨162974, 0, none⟩) 2 FULL), (.slice (some ⟨162974, 0, none⟩) 2 FULL), (.slice (some ⟨234497, 0, none⟩) 1 FULL), (.slice (some ⟨259948, 0, none⟩) 1 FULL), (.slice none 0 0), (.int .i64 71), (.slice (some ⟨248513, 0, none⟩) 1 FULL), (.bool false), (.slice none 0 0), (.slice none 0 0)] 125 1
/-- (*railplan/railplanref39.Traffic).second -/
def axk87 : Cut where
  f := 47
  n := 259900
  args := [(.pointer (some ⟨194069, 0, none⟩))]
  pre := [(194069, axb66), (39225, axb4), (39484, axb5), (40179, axb12), (40181, axb23), (40170, axb14), (40185, axb24), (40183, axb16), (234471, axb31), (234460, axb26), (162974, axb30), (162788, .cells [(.int .i64 0), (.int .i64 0)] 247 2), (162955, .cells [(.int .i64 0), (.int .i64 1)] 247 2), (234497, axb35), (259565, axb36), (248513, axb37)]
  v := (.bool true)
  post := [(194069, axb67), (39225, axb4), (39484, axb5), (40179, axb12), (40181, axb23), (40170, axb14), (40185, axb24), (40183, axb16), (234471, axb31), (234460, axb26), (162974, axb30), (162788, .cells [(.int .i64 0), (.int .i64 0)] 247 2), (162955, .cells [(.int .i64 0), (.int .i64 1)] 247 2), (234497, axb35), (259948, axb36), (248513, axb37)]
  n2 := 260249
  frame := [40189, 5289, 5548, 6243, 6245, 6234, 6249, 6247]
def axk87_h : Hook := (fun _ _ _ _ => none)
def axb68 : EBlk := .cells [(.slice none 0 0), (.slice none 0 0), (.slice (some ⟨39225, 0, none⟩) 2 FULL), (.slice (some ⟨39484, 0, none⟩) 1 FULL), (.slice (some ⟨40179, 0, none⟩) 1 1), (.slice (some ⟨40181, 0, none⟩) 1 1), (.slice (some ⟨40185, 0, none⟩) 1 1), (.slice none 0 0), (.slice (some ⟨234471, 0, none⟩) 1 FULL), (.slice (some ⟨162974, 0, none⟩) 2 FULL), (.slice (some ⟨162974, 0, none⟩) 2 FULL), (.slice (some ⟨234497, 0, none⟩) 1 FULL), (.slice (some ⟨260331, 0, none⟩) 1 FULL), (.slice none 0 0), (.int .i64 72), (.slice (some ⟨248513, 0, none⟩) 1 FULL), (.bool false), (.slice none 0 0), (.slice none 0 0)] 125 1
/-- (*railplan/railplanref39.Traffic).second -/
def axk88 : Cut where
  f := 47
  n := 260283
  args := [(.pointer (some ⟨194069, 0, none⟩))]
  pre := [(194069, axb67), (39225, axb4), (39484, axb5), (40179, axb12), (40181, axb23), (40170, axb14), (40185, axb24), (40183, axb16), (234471, axb31), (234460, axb26), (162974, axb30), (162788, .cells [(.int .i64 0), (.int .i64 0)] 247 2), (162955, .cells [(.int .i64 0), (.int .i64 1)] 247 2), (234497, axb35), (259948, axb36), (248513, axb37)]
  v := (.bool true)
  post := [(194069, axb68), (39225, axb4), (39484, axb5), (40179, axb12), (40181, axb23), (40170, axb14), (40185, axb24), (40183, axb16), (234471, axb31), (234460, axb26), (162974, axb30), (162788, .cells [(.int .i64 0), (.int .i64 0)] 247 2), (162955, .cells [(.int .i64 0), (.int .i64 1)] 247 2), (234497, axb35), (260331, axb36), (248513, axb37)]
  n2 := 260632
  frame := [40189, 5289, 5548, 6243, 6245, 6234, 6249, 6247]
def axk88_h : Hook := (fun _ _ _ _ => none)
def axb69 : EBlk := .cells [(.slice none 0 0), (.slice none 0 0), (.slice (some ⟨39225, 0, none⟩) 2 FULL), (.slice (some ⟨39484, 0, none⟩) 1 FULL), (.slice (some ⟨40179, 0, none⟩) 1 1), (.slice (some ⟨40181, 0, none⟩) 1 1), (.slice (some ⟨40185, 0, none⟩) 1 1), (.slice none 0 0), (.slice (some ⟨234471, 0, none⟩) 1 FULL), (.slice (some ⟨162974, 0, none⟩) 2 FULL), (.slice (some ⟨162974, 0, none⟩) 2 FULL), (.slice (some ⟨234497, 0, none⟩) 1 FULL), (.slice (some ⟨260714, 0, none⟩) 1 FULL), (.slice none 0 0), (.int .i64 73), (.slice (some ⟨248513, 0, none⟩) 1 FULL), (.bool false), (.slice none 0 0), (.slice none 0 0)] 125 1
/-- (*railplan/railplanref39.Traffic).second -/
def axk89 : Cut where
  f := 47
  n := 260666
  args := [(.pointer (some ⟨194069, 0, none⟩))]
  pre := [(194069, axb68), (39225, axb4), (39484, axb5), (40179, axb12), (40181, axb23), (40170, axb14), (40185, axb24), (40183, axb16), (234471, axb31), (234460, axb26), (162974, axb30), (162788, .cells [(.int .i64 0), (.int .i64 0)] 247 2), (162955, .cells [(.int .i64 0), (.int .i64 1)] 247 2), (234497, axb35), (260331, axb36), (248513, axb37)]
  v := (.bool true)
  post := [(194069, axb69), (39225, axb4), (39484, axb5), (40179, axb12), (40181, axb23), (40170, axb14), (40185, axb24), (40183, axb16), (234471, axb31), (234460, axb26), (162974, axb30), (162788, .cells [(.int .i64 0), (.int .i64 0)] 247 2), (162955, .cells [(.int .i64 0), (.int .i64 1)] 247 2), (234497, axb35), (260714, axb36), (248513, axb37)]
  n2 := 261015
  frame := [40189, 5289, 5548, 6243, 6245, 6234, 6249, 6247]
def axk89_h : Hook := (fun _ _ _ _ => none)
def axb70 : EBlk := .cells [(.slice none 0 0), (.slice none 0 0), (.slice (some ⟨39225, 0, none⟩) 2 FULL), (.slice (some ⟨39484, 0, none⟩) 1 FULL), (.slice (some ⟨40179, 0, none⟩) 1 1), (.slice (some ⟨40181, 0, none⟩) 1 1), (.slice (some ⟨40185, 0, none⟩) 1 1), (.slice none 0 0), (.slice (some ⟨234471, 0, none⟩) 1 FULL), (.slice (some ⟨162974, 0, none⟩) 2 FULL), (.slice (some ⟨162974, 0, none⟩) 2 FULL), (.slice (some ⟨234497, 0, none⟩) 1 FULL), (.slice (some ⟨261097, 0, none⟩) 1 FULL), (.slice none 0 0), (.int .i64 74), (.slice (some ⟨248513, 0, none⟩) 1 FULL), (.bool false), (.slice none 0 0), (.slice none 0 0)] 125 1
/-- (*railplan/railplanref39.Traffic).second -/
def axk90 : Cut where
  f := 47
  n := 261049
  args := [(.pointer (some ⟨194069, 0, none⟩))]
  pre := [(194069, axb69), (39225, axb4), (39484, axb5), (40179, axb12), (40181, axb23), (40170, axb14), (40185, axb24), (40183, axb16), (234471, axb31), (234460, axb26), (162974, axb30), (162788, .cells [(.int .i64 0), (.int .i64 0)] 247 2), (162955, .cells [(.int .i64 0), (.int .i64 1)] 247 2), (234497, axb35), (260714, axb36), (248513, axb37)]
  v := (.bool true)
  post := [(194069, axb70), (39225, axb4), (39484, axb5), (40179, axb12), (40181, axb23), (40170, axb14), (40185, axb24), (40183, axb16), (234471, axb31), (234460, axb26), (162974, axb30), (162788, .cells [(.int .i64 0), (.int .i64 0)] 247 2), (162955, .cells [(.int .i64 0), (.int .i64 1)] 247 2), (234497, axb35), (261097, axb36), (248513, axb37)]
  n2 := 261398
  frame := [40189, 5289, 5548, 6243, 6245, 6234, 6249, 6247]
def axk90_h : Hook := (fun _ _ _ _ => none)
def axb71 : EBlk := .cells [(.slice none 0 0), (.slice none 0 0), (.slice (some ⟨39225, 0, none⟩) 2 FULL), (.slice (some ⟨39484, 0, none⟩) 1 FULL), (.slice (some ⟨40179, 0, none⟩) 1 1), (.slice (some ⟨40181, 0, none⟩) 1 1), (.slice (some ⟨40185, 0, none⟩) 1 1), (.slice none 0 0), (.slice (some ⟨234471, 0, none⟩) 1 FULL), (.slice (some ⟨162974, 0, none⟩) 2 FULL), (.slice (some ⟨162974, 0, none⟩) 2 FULL), (.slice (some ⟨234497, 0, none⟩) 1 FULL), (.slice (some ⟨261480, 0, none⟩) 1 FULL), (.slice none 0 0), (.int .i64 75), (.slice (some ⟨248513, 0, none⟩) 1 FULL), (.bool false), (.slice none 0 0), (.slice none 0 0)] 125 1
/-- (*railplan/railplanref39.Traffic).second -/
def axk91 : Cut where
  f := 47
  n := 261432
  args := [(.pointer (some ⟨194069, 0, none⟩))]
  pre := [(194069, axb70), (39225, axb4), (39484, axb5), (40179, axb12), (40181, axb23), (40170, axb14), (40185, axb24), (40183, axb16), (234471, axb31), (234460, axb26), (162974, axb30), (162788, .cells [(.int .i64 0), (.int .i64 0)] 247 2), (162955, .cells [(.int .i64 0), (.int .i64 1)] 247 2), (234497, axb35), (261097, axb36), (248513, axb37)]
  v := (.bool true)
  post := [(194069, axb71), (39225, axb4), (39484, axb5), (40179, axb12), (40181, axb23), (40170, axb14), (40185, axb24), (40183, axb16), (234471, axb31), (234460, axb26), (162974, axb30), (162788, .cells [(.int .i64 0), (.int .i64 0)] 247 2), (162955, .cells [(.int .i64 0), (.int .i64 1)] 247 2), (234497, axb35), (261480, axb36), (248513, axb37)]
  n2 := 261781
  frame := [40189, 5289, 5548, 6243, 6245, 6234, 6249, 6247]
def axk91_h : Hook := (fun _ _ _ _ => none)
def axb72 : EBlk := .cells [(.slice none 0 0), (.slice none 0 0), (.slice (some ⟨39225, 0, none⟩) 2 FULL), (.slice (some ⟨39484, 0, none⟩) 1 FULL), (.slice (some ⟨40179, 0, none⟩) 1 1), (.slice (some ⟨40181, 0, none⟩) 1 1), (.slice (some ⟨40185, 0, none⟩) 1 1), (.slice none 0 0), (.slice (some ⟨234471, 0, none⟩) 1 FULL), (.slice (some ⟨162974, 0, none⟩) 2 FULL), (.slice (some ⟨162974, 0, none⟩) 2 FULL), (.slice (some ⟨234497, 0, none⟩) 1 FULL), (.slice (some ⟨261863, 0, none⟩) 1 FULL), (.slice none 0 0), (.int .i64 76), (.slice (some ⟨248513, 0, none⟩) 1 FULL), (.bool false), (.slice none 0 0), (.slice none 0 0)] 125 1
/-- (*railplan/railplanref39.Traffic).second -/
def axk92 : Cut where
  f := 47
  n := 261815
  args := [(.pointer (some ⟨194069, 0, none⟩))]
  pre := [(194069, axb71), (39225, axb4), (39484, axb5), (40179, axb12), (40181, axb23), (40170, axb14), (40185, axb24), (40183, axb16), (234471, axb31), (234460, axb26), (162974, axb30), (162788, .cells [(.int .i64 0), (.int .i64 0)] 247 2), (162955, .cells [(.int .i64 0), (.int .i64 1)] 247 2), (234497, axb35), (261480, axb36), (248513, axb37)]
  v := (.bool true)
  post := [(194069, axb72), (39225, axb4), (39484, axb5), (40179, axb12), (40181, axb23), (40170, axb14), (40185, axb24), (40183, axb16), (234471, axb31), (234460, axb26), (162974, axb30), (162788, .cells [(.int .i64 0), (.int .i64 0)] 247 2), (162955, .cells [(.int .i64 0), (.int .i64 1)] 247 2), (234497, axb35), (261863, axb36), (248513, axb37)]
  n2 := 262164
  frame := [40189, 5289, 5548, 6243, 6245, 6234, 6249, 6247]
def axk92_h : Hook := (fun _ _ _ _ => none)
def axb73 : EBlk := .cells [(.slice none 0 0), (.slice none 0 0), (.slice (some ⟨39225, 0, none⟩) 2 FULL), (.slice (some ⟨39484, 0, none⟩) 1 FULL), (.slice (some ⟨40179, 0, none⟩) 1 1), (.slice (some ⟨40181, 0, none⟩) 1 1), (.slice (some ⟨40185, 0, none⟩) 1 1), (.slice none 0 0), (.slice (some ⟨234471, 0, none⟩) 1 FULL), (.slice (some ⟨162974, 0, none⟩) 2 FULL), (.slice (some ⟨162974, 0, none⟩) 2 FULL), (.slice (some ⟨234497, 0, none⟩) 1 FULL), (.slice (some ⟨262246, 0, none⟩) 1 FULL), (.slice none 0 0), (.int .i64 77), (.slice (some ⟨248513, 0, none⟩) 1 FULL), (.bool false), (.slice none 0 0), (.slice none 0 0)] 125 1
/-- (*railplan/railplanref39.Traffic).second -/
def axk93 : Cut where
  f := 47
  n := 262198
  args := [(.pointer (some ⟨194069, 0, none⟩))]
  pre := [(194069, axb72), (39225, axb4), (39484, axb5), (40179, axb12), (40181, axb23), (40170, axb14), (40185, axb24), (40183, axb16), (234471, axb31), (234460, axb26), (162974, axb30), (162788, .cells [(.int .i64 0), (.int .i64 0)] 247 2), (162955, .cells [(.int .i64 0), (.int .i64 1)] 247 2), (234497, axb35), (261863, axb36), (248513, axb37)]
  v := (.bool true)
  post := [(194069, axb73), (39225, axb4), (39484, axb5), (40179, axb12), (40181, axb23), (40170, axb14), (40185, axb24), (40183, axb16), (234471, axb31), (234460, axb26), (162974, axb30), (162788, .cells [(.int .i64 0), (.int .i64 0)] 247 2), (162955, .cells [(.int .i64 0), (.int .i64 1)] 247 2), (234497, axb35), (262246, axb36), (248513, axb37)]
  n2 := 262547
  frame := [40189, 5289, 5548, 6243, 6245, 6234, 6249, 6247]
def axk93_h : Hook := (fun _ _ _ _ => none)
def axb74 : EBlk := .cells [(.slice none 0 0), (.slice none 0 0), (.slice (some ⟨39225, 0, none⟩) 2 FULL), (.slice (some ⟨39484, 0, none⟩) 1 FULL), (.slice (some ⟨40179, 0, none⟩) 1 1), (.slice (some ⟨40181, 0, none⟩) 1 1), (.slice (some ⟨40185, 0, none⟩) 1 1), (.slice none 0 0), (.slice (some ⟨234471, 0, none⟩) 1 FULL), (.slice (some ⟨162974, 0, none⟩) 2 FULL), (.slice (some ⟨162974, 0, none⟩) 2 FULL), (.slice (some ⟨234497, 0, none⟩) 1 FULL), (.slice (some ⟨262629, 0, none⟩) 1 FULL), (.slice none 0 0), (.int .i64 78), (.slice (some ⟨248513, 0, none⟩) 1 FULL), (.bool false), (.slice none 0 0), (.slice none 0 0)] 125 1
/-- (*railplan/railplanref39.Traffic).second -/
def axk94 : Cut where
  f := 47
  n := 262581
  args := [(.pointer (some ⟨194069, 0, none⟩))]
  pre := [(194069, axb73), (39225, axb4), (39484, axb5), (40179, axb12), (40181, axb23), (40170, axb14), (40185, axb24), (40183, axb16), (234471, axb31), (234460, axb26), (162974, axb30), (162788, .cells [(.int .i64 0), (.int .i64 0)] 247 2), (162955, .cells [(.int .i64 0), (.int .i64 1)] 247 2), (234497, axb35), (262246, axb36), (248513, axb37)]
  v := (.bool true)
  post := [(194069, axb74), (39225, axb4), (39484, axb5), (40179, axb12), (40181, axb23), (40170, axb14), (40185, axb24), (40183, axb16), (234471, axb31), (234460, axb26), (162974, axb30), (162788, .cells [(.int .i64 0), (.int .i64 0)] 247 2), (162955, .cells [(.int .i64 0), (.int .i64 1)] 247 2), (234497, axb35), (262629, axb36), (248513, axb37)]
  n2 := 262930
  frame := [40189, 5289, 5548, 6243, 6245, 6234, 6249, 6247]
def axk94_h : Hook := (fun _ _ _ _ => none)
def axb75 : EBlk := .cells [(.slice none 0 0), (.slice none 0 0), (.slice (some ⟨39225, 0, none⟩) 2 FULL), (.slice (some ⟨39484, 0, none⟩) 1 FULL), (.slice (some ⟨40179, 0, none⟩) 1 1), (.slice (some ⟨40181, 0, none⟩) 1 1), (.slice (some ⟨40185, 0, none⟩) 1 1), (.slice none 0 0), (.slice (some ⟨234471, 0, none⟩) 1 FULL), (.slice (some ⟨162974, 0, none⟩) 2 FULL), (.slice (some ⟨162974, 0, none⟩) 2 FULL), (.slice (some ⟨234497, 0, none⟩) 1 FULL), (.slice (some ⟨263012, 0, none⟩) 1 FULL), (.slice none 0 0), (.int .i64 79), (.slice (some ⟨248513, 0, none⟩) 1 FULL), (.bool false), (.slice none 0 0), (.slice none 0 0)] 125 1
/-- (*railplan/railplanref39.Traffic).second -/
def axk95 : Cut where
  f := 47
  n := 262964
  args := [(.pointer (some ⟨194069, 0, none⟩))]
  pre := [(194069, axb74), (39225, axb4), (39484, axb5), (40179, axb12), (40181, axb23), (40170, axb14), (40185, axb24), (40183, axb16), (234471, axb31), (234460, axb26), (162974, axb30), (162788, .cells [(.int .i64 0), (.int .i64 0)] 247 2), (162955, .cells [(.int .i64 0), (.int .i64 1)] 247 2), (234497, axb35), (262629, axb36), (248513, axb37)]
  v := (.bool true)
  post := [(194069, axb75), (39225, axb4), (39484, axb5), (40179, axb12), (40181, axb23), (40170, axb14), (40185, axb24), (40183, axb16), (234471, axb31), (234460, axb26), (162974, axb30), (162788, .cells [(.int .i64 0), (.int .i64 0)] 247 2), (162955, .cells [(.int .i64 0), (.int .i64 1)] 247 2), (234497, axb35), (263012, axb36), (248513, axb37)]
  n2 := 263313
  frame := [40189, 5289, 5548, 6243, 6245, 6234, 6249, 6247]
def axk95_h : Hook := (fun _ _ _ _ => none)
def axb76 : EBlk := .cells [(.slice none 0 0), (.slice none 0 0), (.slice (some ⟨39225, 0, none⟩) 2 FULL), (.slice (some ⟨39484, 0, none⟩) 1 FULL), (.slice (some ⟨40179, 0, none⟩) 1 1), (.slice (some ⟨40181, 0, none⟩) 1 1), (.slice (some ⟨40185, 0, none⟩) 1 1), (.slice none 0 0), (.slice (some ⟨234471, 0, none⟩) 1 FULL), (.slice (some ⟨162974, 0, none⟩) 2 FULL), (.slice (some ⟨162974, 0, none⟩) 2 FULL), (.slice (some ⟨234497, 0, none⟩) 1 FULL), (.slice (some ⟨263395, 0, none⟩) 1 FULL), (.slice none 0 0), (.int .i64 80), (.slice (some ⟨248513, 0, none⟩) 1 FULL), (.bool false), (.slice none 0 0), (.slice none 0 0)] 125 1
/-- (*railplan/railplanref39.Traffic).second -/
def axk96 : Cut where
  f := 47
  n := 263347
  args := [(.pointer (some ⟨194069, 0, none⟩))]
  pre := [(194069, axb75), (39225, axb4), (39484, axb5), (40179, axb12), (40181, axb23), (40170, axb14), (40185, axb24), (40183, axb16), (234471, axb31), (234460, axb26), (162974, axb30), (162788, .cells [(.int .i64 0), (.int .i64 0)] 247 2), (162955, .cells [(.int .i64 0), (.int .i64 1)] 247 2), (234497, axb35), (263012, axb36), (248513, axb37)]
  v := (.bool true)
  post := [(194069, axb76), (39225, axb4), (39484, axb5), (40179, axb12), (40181, axb23), (40170, axb14), (40185, axb24), (40183, axb16), (234471, axb31), (234460, axb26), (162974, axb30), (162788, .cells [(.int .i64 0), (.int .i64 0)] 247 2), (162955, .cells [(.int .i64 0), (.int .i64 1)] 247 2), (234497, axb35), (263395, axb36), (248513, axb37)]
  n2 := 263696
  frame := [40189, 5289, 5548, 6243, 6245, 6234, 6249, 6247]
def axk96_h : Hook := (fun _ _ _ _ => none)
def axb77 : EBlk := .cells [(.slice none 0 0), (.slice none 0 0), (.slice (some ⟨39225, 0, none⟩) 2 FULL), (.slice (some ⟨39484, 0, none⟩) 1 FULL), (.slice (some ⟨40179, 0, none⟩) 1 1), (.slice (some ⟨40181, 0, none⟩) 1 1), (.slice (some ⟨40185, 0, none⟩) 1 1), (.slice none 0 0), (.slice (some ⟨234471, 0, none⟩) 1 FULL), (.slice (some ⟨162974, 0, none⟩) 2 FULL), (.slice (some ⟨162974, 0, none⟩) 2 FULL), (.slice (some ⟨234497, 0, none⟩) 1 FULL), (.slice (some ⟨263778, 0, none⟩) 1 FULL), (.slice none 0 0), (.int .i64 81), (.slice (some ⟨248513, 0, none⟩) 1 FULL), (.bool false), (.slice none 0 0), (.slice none 0 0)] 125 1
/-- (*railplan/railplanref39.Traffic).second -/
def axk97 : Cut where
  f := 47
  n := 263730
  args := [(.pointer (some ⟨194069, 0, none⟩))]
  pre := [(194069, axb76), (39225, axb4), (39484, axb5), (40179, axb12), (40181, axb23), (40170, axb14), (40185, axb24), (40183, axb16), (234471, axb31), (234460, axb26), (162974, axb30), (162788, .cells [(.int .i64 0), (.int .i64 0)] 247 2), (162955, .cells [(.int .i64 0), (.int .i64 1)] 247 2), (234497, axb35), (263395, axb36), (248513, axb37)]
  v := (.bool true)
  post := [(194069, axb77), (39225, axb4), (39484, axb5), (40179, axb12), (40181, axb23), (40170, axb14), (40185, axb24), (40183, axb16), (234471, axb31), (234460, axb26), (162974, axb30), (162788, .cells [(.int .i64 0), (.int .i64 0)] 247 2), (162955, .cells [(.int .i64 0), (.int .i64 1)] 247 2), (234497, axb35), (263778, axb36), (248513, axb37)]
  n2 := 264079
  frame := [40189, 5289, 5548, 6243, 6245, 6234, 6249, 6247]
def axk97_h : Hook := (fun _ _ _ _ => none)
def axb78 : EBlk := .cells [(.slice none 0 0), (.slice none 0 0), (.slice (some ⟨39225, 0, none⟩) 2 FULL), (.slice (some ⟨39484, 0, none⟩) 1 FULL), (.slice (some ⟨40179, 0, none⟩) 1 1), (.slice (some ⟨40181, 0, none⟩) 1 1), (.slice (some ⟨40185, 0, none⟩) 1 1), (.slice none 0 0), (.slice (some ⟨234471, 0, none⟩) 1 FULL), (.slice (some ⟨162974, 0, none⟩) 2 FULL), (.slice (some ⟨162974, 0, none⟩) 2 FULL), (.slice (some ⟨234497, 0, none⟩) 1 FULL), (.slice (some ⟨264161, 0, none⟩) 1 FULL), (.slice none 0 0), (.int .i64 82), (.slice (some ⟨248513, 0, none⟩) 1 FULL), (.bool false), (.slice none 0 0), (.slice none 0 0)] 125 1
/-- (*railplan/railplanref39.Traffic).second -/
def axk98 : Cut where
  f := 47
  n := 264113
  args := [(.pointer (some ⟨194069, 0, none⟩))]
  pre := [(194069, axb77), (39225, axb4), (39484, axb5), (40179, axb12), (40181, axb23), (40170, axb14), (40185, axb24), (40183, axb16), (234471, axb31), (234460, axb26), (162974, axb30), (162788, .cells [(.int .i64 0), (.int .i64 0)] 247 2), (162955, .cells [(.int .i64 0), (.int .i64 1)] 247 2), (234497, axb35), (263778, axb36), (248513, axb37)]
  v := (.bool true)
  post := [(194069, axb78), (39225, axb4), (39484, axb5), (40179, axb12), (40181, axb23), (40170, axb14), (40185, axb24), (40183, axb16), (234471, axb31), (234460, axb26), (162974, axb30), (162788, .cells [(.int .i64 0), (.int .i64 0)] 247 2), (162955, .cells [(.int .i64 0), (.int .i64 1)] 247 2), (234497, axb35), (264161, axb36), (248513, axb37)]
  n2 := 264462
  frame := [40189, 5289, 5548, 6243, 6245, 6234, 6249, 6247]
def axk98_h : Hook := (fun _ _ _ _ => none)
def axb79 : EBlk := .cells [(.slice none 0 0), (.slice none 0 0), (.slice (some ⟨39225, 0, none⟩) 2 FULL), (.slice (some ⟨39484, 0, none⟩) 1 FULL), (.slice (some ⟨40179, 0, none⟩) 1 1), (.slice (some ⟨40181, 0, none⟩) 1 1), (.slice (some ⟨40185, 0, none⟩) 1 1), (.slice none 0 0), (.slice (some ⟨234471, 0, none⟩) 1 FULL), (.slice (some ⟨162974, 0, none⟩) 2 FULL), (.slice (some ⟨162974, 0, none⟩) 2 FULL), (.slice (some ⟨234497, 0, none⟩) 1 FULL), (.slice (some ⟨264544, 0, none⟩) 1 FULL), (.slice none 0 0), (.int .i64 83), (.slice (some ⟨248513, 0, none⟩) 1 FULL), (.bool false), (.slice none 0 0), (.slice none 0 0)] 125 1
/-- (*railplan/railplanref39.Traffic).second -/
def axk99 : Cut where
  f := 47
  n := 264496
  args := [(.pointer (some ⟨194069, 0, none⟩))]
  pre := [(194069, axb78), (39225, axb4), (39484, axb5), (40179, axb12), (40181, axb23), (40170, axb14), (40185, axb24), (40183, axb16), (234471, axb31), (234460, axb26), (162974, axb30), (162788, .cells [(.int .i64 0), (.int .i64 0)] 247 2), (162955, .cells [(.int .i64 0), (.int .i64 1)] 247 2), (234497, axb35), (264161, axb36), (248513, axb37)]
  v := (.bool true)
  post := [(194069, axb79), (39225, axb4), (39484, axb5), (40179, axb12), (40181, axb23), (40170, axb14), (40185, axb24), (40183, axb16), (234471, axb31), (234460, axb26), (162974, axb30), (162788, .cells [(.int .i64 0), (.int .i64 0)] 247 2), (162955, .cells [(.int .i64 0), (.int .i64 1)] 247 2), (234497, axb35), (264544, axb36), (248513, axb37)]
  n2 := 264845
  frame := [40189, 5289, 5548, 6243, 6245, 6234, 6249, 6247]
def axk99_h : Hook := (fun _ _ _ _ => none)
def axb80 : EBlk := .cells [(.slice none 0 0), (.slice none 0 0), (.slice (some ⟨39225, 0, none⟩) 2 FULL), (.slice (some ⟨39484, 0, none⟩) 1 FULL), (.slice (some ⟨40179, 0, none⟩) 1 1), (.slice (some ⟨40181, 0, none⟩) 1 1), (.slice (some ⟨40185, 0, none⟩) 1 1), (.slice none 0 0), (.slice (some ⟨234471, 0, none⟩) 1 FULL), (.slice (some ⟨162974, 0, none⟩) 2 FULL), (.slice (some ⟨162974, 0, none⟩) 2 FULL), (.slice (some ⟨234497, 0, none⟩) 1 FULL), (.slice (some ⟨264927, 0, none⟩) 1 FULL), (.slice none 0 0), (.int .i64 84), (.slice (some ⟨248513, 0, none⟩) 1 FULL), (.bool false), (.slice none 0 0), (.slice none 0 0)] 125 1
/-- (*railplan/railplanref39.Traffic).second -/
def axk100 : Cut where
  f := 47
  n := 264879
  args := [(.pointer (some ⟨194069, 0, none⟩))]
  pre := [(194069, axb79), (39225, axb4), (39484, axb5), (40179, axb12), (40181, axb23), (40170, axb14), (40185, axb24), (40183, axb16), (234471, axb31), (234460, axb26), (162974, axb30), (162788, .cells [(.int .i64 0), (.int .i64 0)] 247 2), (162955, .cells [(.int .i64 0), (.int .i64 1)] 247 2), (234497, axb35), (264544, axb36), (248513, axb37)]
  v := (.bool true)
  post := [(194069, axb80), (39225, axb4), (39484, axb5), (40179, axb12), (40181, axb23), (40170, axb14), (40185, axb24), (40183, axb16), (234471, axb31), (234460, axb26), (162974, axb30), (162788, .cells [(.int .i64 0), (.int .i64 0)] 247 2), (162955, .cells [(.int .i64 0), (.int .i64 1)] 247 2), (234497, axb35), (264927, axb36), (248513, axb37)]
  n2 := 265228
  frame := [40189, 5289, 5548, 6243, 6245, 6234, 6249, 6247]
def axk100_h : Hook := (fun _ _ _ _ => none)
/-- railplan/railplanref6.Cells -/
def axk101 : Cut where
  f := 314
  n := 265970
  args := [(.agg #[(.slice none 0 0), (.slice none 0 0), (.slice (some ⟨39225, 0, none⟩) 2 FULL), (.slice (some ⟨39484, 0, none⟩) 1 FULL)]), (.agg #[(.slice (some ⟨40170, 0, none⟩) 2 2), (.int .i64 0)])]
  pre := [(39225, axb4), (39484, axb5), (40170, axb14)]
  v := (.tuple #[(.slice (some ⟨267920, 0, none⟩) 60 FULL), (.int .i64 40), (.int .i64 0)])
  post := [(267920, axb7), (39225, axb4), (39484, axb5), (40170, axb14)]
  n2 := 267957
  frame := [265963, 265964, 265965, 265955, 265956, 265957, 265946, 265947, 265948, 265949, 265943, 40179, 265917, 40183, 265910, 40181, 40185, 265911, 234497, 194069, 234471, 234460, 162974, 162788, 162955, 265825, 265795, 265458, 40189, 5289, 5548, 6243, 6245, 6234, 6249, 6247]
def axk101_h : Hook := (fun _ _ _ _ => none)
/-- railplan/railplanref6.Cells -/
def axk102 : Cut where
  f := 314
  n := 268326
  args := [(.agg #[(.slice none 0 0), (.slice none 0 0), (.slice (some ⟨39225, 0, none⟩) 2 FULL), (.slice (some ⟨39484, 0, none⟩) 1 FULL)]), (.agg #[(.slice (some ⟨268303, 0, none⟩) 2 FULL), (.int .i64 0)])]
  pre := [(39225, axb4), (39484, axb5), (268303, axb6)]
  v := (.tuple #[(.slice (some ⟨270276, 0, none⟩) 60 FULL), (.int .i64 40), (.int .i64 0)])
  post := [(270276, axb7), (39225, axb4), (39484, axb5), (268303, axb6)]
  n2 := 270313
  frame := [268319, 268320, 268321, 268308, 268309, 268310, 40170, 265946, 265947, 265948, 265949, 265943, 40179, 265917, 40183, 265910, 40181, 40185, 265911, 234497, 194069, 234471, 234460, 162974, 162788, 162955, 265825, 265795, 265458, 40189, 5289, 5548, 6243, 6245, 6234, 6249, 6247]
def axk102_h : Hook := (fun _ _ _ _ => none)
/-- railplan/railplanref6.Cells -/
def axk103 : Cut where
  f := 314
  n := 270454
  args := [(.agg #[(.slice none 0 0), (.slice none 0 0), (.slice (some ⟨39225, 0, none⟩) 2 FULL), (.slice (some ⟨39484, 0, none⟩) 1 FULL)]), (.agg #[(.slice (some ⟨268303, 0, none⟩) 2 FULL), (.int .i64 0)])]
  pre := [(39225, axb4), (39484, axb5), (268303, axb6)]
  v := (.tuple #[(.slice (some ⟨272404, 0, none⟩) 60 FULL), (.int .i64 40), (.int .i64 0)])
  post := [(272404, axb7), (39225, axb4), (39484, axb5), (268303, axb6)]
  n2 := 272441
  frame := [268308, 268309, 268310, 40170, 265946, 265947, 265948, 265949, 265943, 40179, 265917, 40183, 265910, 40181, 40185, 265911, 234497, 194069, 234471, 234460, 162974, 162788, 162955, 265825, 265795, 265458, 40189, 5289, 5548, 6243, 6245, 6234, 6249, 6247]
def axk103_h : Hook := (fun _ _ _ _ => none)
/-- railplan/railplanref6.bad -/
def axk104 : Cut where
  f := 338
  n := 272466
  args := [(.slice (some ⟨272404, 0, none⟩) 60 FULL), (.int .i64 40), (.agg #[(.string ⟨#[]⟩), (.int .i64 20), (.int .i64 30000), (.int .i64 500), (.int .i64 500)])]
  pre := [(272404, axb7)]
  v := (.int .i64 0)
  post := [(272404, axb7)]
  n2 := 275130
  frame := [272459, 272452, 39225, 39484, 268303, 268308, 268309, 268310, 40170, 265946, 265947, 265948, 265949, 265943, 40179, 265917, 40183, 265910, 40181, 40185, 265911, 234497, 194069, 234471, 234460, 162974, 162788, 162955, 265825, 265795, 265458, 40189, 5289, 5548, 6243, 6245, 6234, 6249, 6247]
def axk104_h : Hook := (fun _ _ _ _ => none)
/-- railplan/railplanref6.Speeds -/
def axk105 : Cut where
  f := 334
  n := 272459
  args := [(.slice (some ⟨272404, 0, none⟩) 60 FULL), (.int .i64 40), (.agg #[(.string ⟨#[]⟩), (.int .i64 20), (.int .i64 30000), (.int .i64 500), (.int .i64 500)])]
  pre := [(272404, axb7)]
  v := (.tuple #[(.slice (some ⟨275140, 0, none⟩) 21 21), (.int .i64 0)])
  post := [(275140, axb9), (272404, axb7)]
  n2 := 299635
  frame := [272452, 39225, 39484, 268303, 268308, 268309, 268310, 40170, 265946, 265947, 265948, 265949, 265943, 40179, 265917, 40183, 265910, 40181, 40185, 265911, 234497, 194069, 234471, 234460, 162974, 162788, 162955, 265825, 265795, 265458, 40189, 5289, 5548, 6243, 6245, 6234, 6249, 6247]
def axk105_h : Hook := (cutHook axk104 (fun _ _ _ _ => none))
/-- railplan/railplanref6.Times -/
def axk106 : Cut where
  f := 327
  n := 272452
  args := [(.slice (some ⟨272404, 0, none⟩) 60 FULL), (.int .i64 40), (.agg #[(.string ⟨#[]⟩), (.int .i64 20), (.int .i64 30000), (.int .i64 500), (.int .i64 500)])]
  pre := [(272404, axb7)]
  v := (.tuple #[(.slice (some ⟨299644, 0, none⟩) 21 21), (.int .i64 0)])
  post := [(299644, axb10), (272404, axb7)]
  n2 := 300494
  frame := [39225, 39484, 268303, 268308, 268309, 268310, 40170, 265946, 265947, 265948, 265949, 265943, 40179, 265917, 40183, 265910, 40181, 40185, 265911, 234497, 194069, 234471, 234460, 162974, 162788, 162955, 265825, 265795, 265458, 40189, 5289, 5548, 6243, 6245, 6234, 6249, 6247]
def axk106_h : Hook := (cutHook axk105 (fun _ _ _ _ => none))
def axb81 : EBlk := .cells [(.slice none 0 0), (.slice none 0 0), (.slice (some ⟨39225, 0, none⟩) 2 FULL), (.slice (some ⟨39484, 0, none⟩) 1 FULL), (.slice (some ⟨40179, 0, none⟩) 1 1), (.slice (some ⟨40181, 0, none⟩) 1 1), (.slice (some ⟨40185, 0, none⟩) 1 1), (.slice none 0 0), (.slice (some ⟨234471, 0, none⟩) 1 FULL), (.slice (some ⟨162974, 0, none⟩) 2 FULL), (.slice (some ⟨162974, 0, none⟩) 2 FULL), (.slice (some ⟨234497, 0, none⟩) 1 FULL), (.slice (some ⟨265310, 0, none⟩) 1 FULL), (.slice none 0 0), (.int .i64 84), (.slice (some ⟨248513, 0, none⟩) 1 FULL), (.bool false), (.slice none 0 0), (.slice none 0 0)] 125 1
def axb82 : EBlk := .cells [(.slice none 0 0), (.slice none 0 0), (.slice (some ⟨39225, 0, none⟩) 2 FULL), (.slice (some ⟨39484, 0, none⟩) 1 FULL), (.slice (some ⟨40179, 0, none⟩) 1 1), (.slice (some ⟨40181, 0, none⟩) 1 1), (.slice (some ⟨40185, 0, none⟩) 1 1), (.slice none 0 0), (.slice (some ⟨234471, 0, none⟩) 1 FULL), (.slice (some ⟨162974, 0, none⟩) 2 FULL), (.slice (some ⟨162974, 0, none⟩) 2 FULL), (.slice (some ⟨234497, 0, none⟩) 1 FULL), (.slice (some ⟨265825, 0, none⟩) 2 FULL), (.slice (some ⟨301022, 0, none⟩) 2 FULL), (.int .i64 84), (.slice (some ⟨265795, 0, none⟩) 2 FULL), (.bool false), (.slice none 0 0), (.slice none 0 0)] 125 1
def axb83 : EBlk := .cells [(.int .i64 1), (.int .i64 0), (.int .i64 0), (.int .i64 100), (.int .i64 (-1)), (.int .i64 2), (.bool true), (.int .i64 201), (.int .i64 0), (.int .i64 1), (.slice (some ⟨300647, 0, none⟩) 1 FULL), (.slice (some ⟨300659, 0, none⟩) 1 FULL), (.slice (some ⟨300672, 0, none⟩) 1 FULL), (.int .i64 0), (.int .i64 41)] 179 15
def axb84 : EBlk := .cells [(.int .i64 0), (.int .i64 0), (.int .i64 0), (.int .i64 145), (.int .i64 0), (.int .i64 1), (.int .i64 1), (.int .i64 201)] 256 4
def axb85 : EBlk := .cells [(.int .i64 100), (.int .i64 8), (.int .i64 0), (.int .i64 0), (.int .i64 0), (.int .i64 0), (.int .i64 141), (.int .i64 2), (.int .i64 0), (.int .i64 0), (.int .i64 1), (.int .i64 0)] 32 6
def axb86 : EBlk := .cells [(.int .i64 40), (.int .i64 5), (.int .i64 0), (.int .i64 0), (.int .i64 0), (.int .i64 0), (.int .i64 84), (.int .i64 5), (.int .i64 0), (.int .i64 0), (.int .i64 1), (.int .i64 0)] 32 6
/-- (*railplan/railplanref39.Traffic).depart -/
def axk107 : Cut where
  f := 143
  n := 265474
  args := [(.pointer (some ⟨194069, 0, none⟩)), (.int .i64 0)]
  pre := [(194069, axb81), (39225, axb4), (39484, axb5), (40179, axb12), (40181, axb23), (40170, axb14), (40185, axb24), (40183, axb16), (234471, axb31), (234460, axb26), (162974, axb30), (162788, .cells [(.int .i64 0), (.int .i64 0)] 247 2), (162955, .cells [(.int .i64 0), (.int .i64 1)] 247 2), (234497, axb35), (265310, axb36), (248513, axb37)]
  v := (.bool true)
  post := [(194069, axb82), (39225, axb4), (39484, axb5), (40179, axb12), (40181, axb23), (40170, axb14), (40185, axb24), (40183, axb16), (234471, axb31), (234460, axb26), (162974, axb30), (162788, .cells [(.int .i64 0), (.int .i64 0)] 247 2), (162955, .cells [(.int .i64 0), (.int .i64 1)] 247 2), (234497, axb83), (300647, .cells [(.int .i64 (-16))] 3 1), (300659, .cells [(.int .i64 0)] 3 1), (300672, .cells [(.int .i64 45)] 3 1), (265825, axb84), (301022, axb85), (265795, axb86)]
  n2 := 301312
  frame := [265458, 40189, 5289, 5548, 6243, 6245, 6234, 6249, 6247]
def axk107_h : Hook := (cutHook axk101 (cutHook axk102 (cutHook axk103 (cutHook axk106 (fun _ _ _ _ => none)))))
def axb87 : EBlk := .cells [(.slice none 0 0), (.slice none 0 0), (.slice (some ⟨39225, 0, none⟩) 2 FULL), (.slice (some ⟨39484, 0, none⟩) 1 FULL), (.slice (some ⟨40179, 0, none⟩) 1 1), (.slice (some ⟨40181, 0, none⟩) 1 1), (.slice (some ⟨40185, 0, none⟩) 1 1), (.slice none 0 0), (.slice (some ⟨234471, 0, none⟩) 1 FULL), (.slice (some ⟨162974, 0, none⟩) 2 FULL), (.slice (some ⟨162974, 0, none⟩) 2 FULL), (.slice (some ⟨234497, 0, none⟩) 1 FULL), (.slice (some ⟨265825, 0, none⟩) 2 FULL), (.slice (some ⟨301450, 0, none⟩) 2 FULL), (.int .i64 85), (.slice (some ⟨265795, 0, none⟩) 2 FULL), (.bool false), (.slice none 0 0), (.slice none 0 0)] 125 1
/-- (*railplan/railplanref39.Traffic).second -/
def axk108 : Cut where
  f := 47
  n := 265262
  args := [(.pointer (some ⟨194069, 0, none⟩))]
  pre := [(194069, axb80), (39225, axb4), (39484, axb5), (40179, axb12), (40181, axb23), (40170, axb14), (40185, axb24), (40183, axb16), (234471, axb31), (234460, axb26), (162974, axb30), (162788, .cells [(.int .i64 0), (.int .i64 0)] 247 2), (162955, .cells [(.int .i64 0), (.int .i64 1)] 247 2), (234497, axb35), (264927, axb36), (248513, axb37)]
  v := (.bool true)
  post := [(194069, axb87), (39225, axb4), (39484, axb5), (40179, axb12), (40181, axb23), (40170, axb14), (40185, axb24), (40183, axb16), (234471, axb31), (234460, axb26), (162974, axb30), (162788, .cells [(.int .i64 0), (.int .i64 0)] 247 2), (162955, .cells [(.int .i64 0), (.int .i64 1)] 247 2), (234497, axb83), (300647, .cells [(.int .i64 (-16))] 3 1), (300659, .cells [(.int .i64 0)] 3 1), (300672, .cells [(.int .i64 45)] 3 1), (265825, axb84), (301450, axb85), (265795, axb86)]
  n2 := 301482
  frame := [40189, 5289, 5548, 6243, 6245, 6234, 6249, 6247]
def axk108_h : Hook := (cutHook axk107 (fun _ _ _ _ => none))
def axb88 : EBlk := .cells [(.slice none 0 0), (.slice none 0 0), (.slice (some ⟨39225, 0, none⟩) 2 FULL), (.slice (some ⟨39484, 0, none⟩) 1 FULL), (.slice (some ⟨40179, 0, none⟩) 1 1), (.slice (some ⟨40181, 0, none⟩) 1 1), (.slice (some ⟨40185, 0, none⟩) 1 1), (.slice none 0 0), (.slice (some ⟨234471, 0, none⟩) 1 FULL), (.slice (some ⟨162974, 0, none⟩) 2 FULL), (.slice (some ⟨162974, 0, none⟩) 2 FULL), (.slice (some ⟨234497, 0, none⟩) 1 FULL), (.slice (some ⟨301599, 0, none⟩) 2 FULL), (.slice (some ⟨301923, 0, none⟩) 2 FULL), (.int .i64 86), (.slice (some ⟨265795, 0, none⟩) 2 FULL), (.bool false), (.slice none 0 0), (.slice none 0 0)] 125 1
/-- (*railplan/railplanref39.Traffic).second -/
def axk109 : Cut where
  f := 47
  n := 301516
  args := [(.pointer (some ⟨194069, 0, none⟩))]
  pre := [(194069, axb87), (39225, axb4), (39484, axb5), (40179, axb12), (40181, axb23), (40170, axb14), (40185, axb24), (40183, axb16), (234471, axb31), (234460, axb26), (162974, axb30), (162788, .cells [(.int .i64 0), (.int .i64 0)] 247 2), (162955, .cells [(.int .i64 0), (.int .i64 1)] 247 2), (234497, axb83), (300647, .cells [(.int .i64 (-16))] 3 1), (300659, .cells [(.int .i64 0)] 3 1), (300672, .cells [(.int .i64 45)] 3 1), (265825, axb84), (301450, axb85), (265795, axb86)]
  v := (.bool true)
  post := [(194069, axb88), (39225, axb4), (39484, axb5), (40179, axb12), (40181, axb23), (40170, axb14), (40185, axb24), (40183, axb16), (234471, axb31), (234460, axb26), (162974, axb30), (162788, .cells [(.int .i64 0), (.int .i64 0)] 247 2), (162955, .cells [(.int .i64 0), (.int .i64 1)] 247 2), (234497, axb83), (300647, .cells [(.int .i64 (-16))] 3 1), (300659, .cells [(.int .i64 0)] 3 1), (300672, .cells [(.int .i64 45)] 3 1), (301599, axb84), (301923, axb85), (265795, axb86)]
  n2 := 301955
  frame := [40189, 5289, 5548, 6243, 6245, 6234, 6249, 6247]
def axk109_h : Hook := (fun _ _ _ _ => none)
def axb89 : EBlk := .cells [(.slice none 0 0), (.slice none 0 0), (.slice (some ⟨39225, 0, none⟩) 2 FULL), (.slice (some ⟨39484, 0, none⟩) 1 FULL), (.slice (some ⟨40179, 0, none⟩) 1 1), (.slice (some ⟨40181, 0, none⟩) 1 1), (.slice (some ⟨40185, 0, none⟩) 1 1), (.slice none 0 0), (.slice (some ⟨234471, 0, none⟩) 1 FULL), (.slice (some ⟨162974, 0, none⟩) 2 FULL), (.slice (some ⟨162974, 0, none⟩) 2 FULL), (.slice (some ⟨234497, 0, none⟩) 1 FULL), (.slice (some ⟨302072, 0, none⟩) 2 FULL), (.slice (some ⟨302396, 0, none⟩) 2 FULL), (.int .i64 87), (.slice (some ⟨265795, 0, none⟩) 2 FULL), (.bool false), (.slice none 0 0), (.slice none 0 0)] 125 1
/-- (*railplan/railplanref39.Traffic).second -/
def axk110 : Cut where
  f := 47
  n := 301989
  args := [(.pointer (some ⟨194069, 0, none⟩))]
  pre := [(194069, axb88), (39225, axb4), (39484, axb5), (40179, axb12), (40181, axb23), (40170, axb14), (40185, axb24), (40183, axb16), (234471, axb31), (234460, axb26), (162974, axb30), (162788, .cells [(.int .i64 0), (.int .i64 0)] 247 2), (162955, .cells [(.int .i64 0), (.int .i64 1)] 247 2), (234497, axb83), (300647, .cells [(.int .i64 (-16))] 3 1), (300659, .cells [(.int .i64 0)] 3 1), (300672, .cells [(.int .i64 45)] 3 1), (301599, axb84), (301923, axb85), (265795, axb86)]
  v := (.bool true)
  post := [(194069, axb89), (39225, axb4), (39484, axb5), (40179, axb12), (40181, axb23), (40170, axb14), (40185, axb24), (40183, axb16), (234471, axb31), (234460, axb26), (162974, axb30), (162788, .cells [(.int .i64 0), (.int .i64 0)] 247 2), (162955, .cells [(.int .i64 0), (.int .i64 1)] 247 2), (234497, axb83), (300647, .cells [(.int .i64 (-16))] 3 1), (300659, .cells [(.int .i64 0)] 3 1), (300672, .cells [(.int .i64 45)] 3 1), (302072, axb84), (302396, axb85), (265795, axb86)]
  n2 := 302428
  frame := [40189, 5289, 5548, 6243, 6245, 6234, 6249, 6247]
def axk110_h : Hook := (fun _ _ _ _ => none)
def axb90 : EBlk := .cells [(.slice none 0 0), (.slice none 0 0), (.slice (some ⟨39225, 0, none⟩) 2 FULL), (.slice (some ⟨39484, 0, none⟩) 1 FULL), (.slice (some ⟨40179, 0, none⟩) 1 1), (.slice (some ⟨40181, 0, none⟩) 1 1), (.slice (some ⟨40185, 0, none⟩) 1 1), (.slice none 0 0), (.slice (some ⟨234471, 0, none⟩) 1 FULL), (.slice (some ⟨162974, 0, none⟩) 2 FULL), (.slice (some ⟨162974, 0, none⟩) 2 FULL), (.slice (some ⟨234497, 0, none⟩) 1 FULL), (.slice (some ⟨302545, 0, none⟩) 2 FULL), (.slice (some ⟨302869, 0, none⟩) 2 FULL), (.int .i64 88), (.slice (some ⟨265795, 0, none⟩) 2 FULL), (.bool false), (.slice none 0 0), (.slice none 0 0)] 125 1
/-- (*railplan/railplanref39.Traffic).second -/
def axk111 : Cut where
  f := 47
  n := 302462
  args := [(.pointer (some ⟨194069, 0, none⟩))]
  pre := [(194069, axb89), (39225, axb4), (39484, axb5), (40179, axb12), (40181, axb23), (40170, axb14), (40185, axb24), (40183, axb16), (234471, axb31), (234460, axb26), (162974, axb30), (162788, .cells [(.int .i64 0), (.int .i64 0)] 247 2), (162955, .cells [(.int .i64 0), (.int .i64 1)] 247 2), (234497, axb83), (300647, .cells [(.int .i64 (-16))] 3 1), (300659, .cells [(.int .i64 0)] 3 1), (300672, .cells [(.int .i64 45)] 3 1), (302072, axb84), (302396, axb85), (265795, axb86)]
  v := (.bool true)
  post := [(194069, axb90), (39225, axb4), (39484, axb5), (40179, axb12), (40181, axb23), (40170, axb14), (40185, axb24), (40183, axb16), (234471, axb31), (234460, axb26), (162974, axb30), (162788, .cells [(.int .i64 0), (.int .i64 0)] 247 2), (162955, .cells [(.int .i64 0), (.int .i64 1)] 247 2), (234497, axb83), (300647, .cells [(.int .i64 (-16))] 3 1), (300659, .cells [(.int .i64 0)] 3 1), (300672, .cells [(.int .i64 45)] 3 1), (302545, axb84), (302869, axb85), (265795, axb86)]
  n2 := 302901
  frame := [40189, 5289, 5548, 6243, 6245, 6234, 6249, 6247]
def axk111_h : Hook := (fun _ _ _ _ => none)
def axb91 : EBlk := .cells [(.slice none 0 0), (.slice none 0 0), (.slice (some ⟨39225, 0, none⟩) 2 FULL), (.slice (some ⟨39484, 0, none⟩) 1 FULL), (.slice (some ⟨40179, 0, none⟩) 1 1), (.slice (some ⟨40181, 0, none⟩) 1 1), (.slice (some ⟨40185, 0, none⟩) 1 1), (.slice none 0 0), (.slice (some ⟨234471, 0, none⟩) 1 FULL), (.slice (some ⟨162974, 0, none⟩) 2 FULL), (.slice (some ⟨162974, 0, none⟩) 2 FULL), (.slice (some ⟨234497, 0, none⟩) 1 FULL), (.slice (some ⟨303018, 0, none⟩) 2 FULL), (.slice (some ⟨303342, 0, none⟩) 2 FULL), (.int .i64 89), (.slice (some ⟨265795, 0, none⟩) 2 FULL), (.bool false), (.slice none 0 0), (.slice none 0 0)] 125 1
/-- (*railplan/railplanref39.Traffic).second -/
def axk112 : Cut where
  f := 47
  n := 302935
  args := [(.pointer (some ⟨194069, 0, none⟩))]
  pre := [(194069, axb90), (39225, axb4), (39484, axb5), (40179, axb12), (40181, axb23), (40170, axb14), (40185, axb24), (40183, axb16), (234471, axb31), (234460, axb26), (162974, axb30), (162788, .cells [(.int .i64 0), (.int .i64 0)] 247 2), (162955, .cells [(.int .i64 0), (.int .i64 1)] 247 2), (234497, axb83), (300647, .cells [(.int .i64 (-16))] 3 1), (300659, .cells [(.int .i64 0)] 3 1), (300672, .cells [(.int .i64 45)] 3 1), (302545, axb84), (302869, axb85), (265795, axb86)]
  v := (.bool true)
  post := [(194069, axb91), (39225, axb4), (39484, axb5), (40179, axb12), (40181, axb23), (40170, axb14), (40185, axb24), (40183, axb16), (234471, axb31), (234460, axb26), (162974, axb30), (162788, .cells [(.int .i64 0), (.int .i64 0)] 247 2), (162955, .cells [(.int .i64 0), (.int .i64 1)] 247 2), (234497, axb83), (300647, .cells [(.int .i64 (-16))] 3 1), (300659, .cells [(.int .i64 0)] 3 1), (300672, .cells [(.int .i64 45)] 3 1), (303018, axb84), (303342, axb85), (265795, axb86)]
  n2 := 303374
  frame := [40189, 5289, 5548, 6243, 6245, 6234, 6249, 6247]
def axk112_h : Hook := (fun _ _ _ _ => none)
def axb92 : EBlk := .cells [(.slice none 0 0), (.slice none 0 0), (.slice (some ⟨39225, 0, none⟩) 2 FULL), (.slice (some ⟨39484, 0, none⟩) 1 FULL), (.slice (some ⟨40179, 0, none⟩) 1 1), (.slice (some ⟨40181, 0, none⟩) 1 1), (.slice (some ⟨40185, 0, none⟩) 1 1), (.slice none 0 0), (.slice (some ⟨234471, 0, none⟩) 1 FULL), (.slice (some ⟨162974, 0, none⟩) 2 FULL), (.slice (some ⟨162974, 0, none⟩) 2 FULL), (.slice (some ⟨234497, 0, none⟩) 1 FULL), (.slice (some ⟨303491, 0, none⟩) 2 FULL), (.slice (some ⟨303815, 0, none⟩) 2 FULL), (.int .i64 90), (.slice (some ⟨265795, 0, none⟩) 2 FULL), (.bool false), (.slice none 0 0), (.slice none 0 0)] 125 1
/-- (*railplan/railplanref39.Traffic).second -/
def axk113 : Cut where
  f := 47
  n := 303408
  args := [(.pointer (some ⟨194069, 0, none⟩))]
  pre := [(194069, axb91), (39225, axb4), (39484, axb5), (40179, axb12), (40181, axb23), (40170, axb14), (40185, axb24), (40183, axb16), (234471, axb31), (234460, axb26), (162974, axb30), (162788, .cells [(.int .i64 0), (.int .i64 0)] 247 2), (162955, .cells [(.int .i64 0), (.int .i64 1)] 247 2), (234497, axb83), (300647, .cells [(.int .i64 (-16))] 3 1), (300659, .cells [(.int .i64 0)] 3 1), (300672, .cells [(.int .i64 45)] 3 1), (303018, axb84), (303342, axb85), (265795, axb86)]
  v := (.bool true)
  post := [(194069, axb92), (39225, axb4), (39484, axb5), (40179, axb12), (40181, axb23), (40170, axb14), (40185, axb24), (40183, axb16), (234471, axb31), (234460, axb26), (162974, axb30), (162788, .cells [(.int .i64 0), (.int .i64 0)] 247 2), (162955, .cells [(.int .i64 0), (.int .i64 1)] 247 2), (234497, axb83), (300647, .cells [(.int .i64 (-16))] 3 1), (300659, .cells [(.int .i64 0)] 3 1), (300672, .cells [(.int .i64 45)] 3 1), (303491, axb84), (303815, axb85), (265795, axb86)]
  n2 := 303847
  frame := [40189, 5289, 5548, 6243, 6245, 6234, 6249, 6247]
def axk113_h : Hook := (fun _ _ _ _ => none)
def axb93 : EBlk := .cells [(.slice none 0 0), (.slice none 0 0), (.slice (some ⟨39225, 0, none⟩) 2 FULL), (.slice (some ⟨39484, 0, none⟩) 1 FULL), (.slice (some ⟨40179, 0, none⟩) 1 1), (.slice (some ⟨40181, 0, none⟩) 1 1), (.slice (some ⟨40185, 0, none⟩) 1 1), (.slice none 0 0), (.slice (some ⟨234471, 0, none⟩) 1 FULL), (.slice (some ⟨162974, 0, none⟩) 2 FULL), (.slice (some ⟨162974, 0, none⟩) 2 FULL), (.slice (some ⟨234497, 0, none⟩) 1 FULL), (.slice (some ⟨303964, 0, none⟩) 2 FULL), (.slice (some ⟨304288, 0, none⟩) 2 FULL), (.int .i64 91), (.slice (some ⟨265795, 0, none⟩) 2 FULL), (.bool false), (.slice none 0 0), (.slice none 0 0)] 125 1
/-- (*railplan/railplanref39.Traffic).second -/
def axk114 : Cut where
  f := 47
  n := 303881
  args := [(.pointer (some ⟨194069, 0, none⟩))]
  pre := [(194069, axb92), (39225, axb4), (39484, axb5), (40179, axb12), (40181, axb23), (40170, axb14), (40185, axb24), (40183, axb16), (234471, axb31), (234460, axb26), (162974, axb30), (162788, .cells [(.int .i64 0), (.int .i64 0)] 247 2), (162955, .cells [(.int .i64 0), (.int .i64 1)] 247 2), (234497, axb83), (300647, .cells [(.int .i64 (-16))] 3 1), (300659, .cells [(.int .i64 0)] 3 1), (300672, .cells [(.int .i64 45)] 3 1), (303491, axb84), (303815, axb85), (265795, axb86)]
  v := (.bool true)
  post := [(194069, axb93), (39225, axb4), (39484, axb5), (40179, axb12), (40181, axb23), (40170, axb14), (40185, axb24), (40183, axb16), (234471, axb31), (234460, axb26), (162974, axb30), (162788, .cells [(.int .i64 0), (.int .i64 0)] 247 2), (162955, .cells [(.int .i64 0), (.int .i64 1)] 247 2), (234497, axb83), (300647, .cells [(.int .i64 (-16))] 3 1), (300659, .cells [(.int .i64 0)] 3 1), (300672, .cells [(.int .i64 45)] 3 1), (303964, axb84), (304288, axb85), (265795, axb86)]
  n2 := 304320
  frame := [40189, 5289, 5548, 6243, 6245, 6234, 6249, 6247]
def axk114_h : Hook := (fun _ _ _ _ => none)
def axb94 : EBlk := .cells [(.slice none 0 0), (.slice none 0 0), (.slice (some ⟨39225, 0, none⟩) 2 FULL), (.slice (some ⟨39484, 0, none⟩) 1 FULL), (.slice (some ⟨40179, 0, none⟩) 1 1), (.slice (some ⟨40181, 0, none⟩) 1 1), (.slice (some ⟨40185, 0, none⟩) 1 1), (.slice none 0 0), (.slice (some ⟨234471, 0, none⟩) 1 FULL), (.slice (some ⟨162974, 0, none⟩) 2 FULL), (.slice (some ⟨162974, 0, none⟩) 2 FULL), (.slice (some ⟨234497, 0, none⟩) 1 FULL), (.slice (some ⟨304437, 0, none⟩) 2 FULL), (.slice (some ⟨304761, 0, none⟩) 2 FULL), (.int .i64 92), (.slice (some ⟨265795, 0, none⟩) 2 FULL), (.bool false), (.slice none 0 0), (.slice none 0 0)] 125 1
/-- (*railplan/railplanref39.Traffic).second -/
def axk115 : Cut where
  f := 47
  n := 304354
  args := [(.pointer (some ⟨194069, 0, none⟩))]
  pre := [(194069, axb93), (39225, axb4), (39484, axb5), (40179, axb12), (40181, axb23), (40170, axb14), (40185, axb24), (40183, axb16), (234471, axb31), (234460, axb26), (162974, axb30), (162788, .cells [(.int .i64 0), (.int .i64 0)] 247 2), (162955, .cells [(.int .i64 0), (.int .i64 1)] 247 2), (234497, axb83), (300647, .cells [(.int .i64 (-16))] 3 1), (300659, .cells [(.int .i64 0)] 3 1), (300672, .cells [(.int .i64 45)] 3 1), (303964, axb84), (304288, axb85), (265795, axb86)]
  v := (.bool true)
  post := [(194069, axb94), (39225, axb4), (39484, axb5), (40179, axb12), (40181, axb23), (40170, axb14), (40185, axb24), (40183, axb16), (234471, axb31), (234460, axb26), (162974, axb30), (162788, .cells [(.int .i64 0), (.int .i64 0)] 247 2), (162955, .cells [(.int .i64 0), (.int .i64 1)] 247 2), (234497, axb83), (300647, .cells [(.int .i64 (-16))] 3 1), (300659, .cells [(.int .i64 0)] 3 1), (300672, .cells [(.int .i64 45)] 3 1), (304437, axb84), (304761, axb85), (265795, axb86)]
  n2 := 304793
  frame := [40189, 5289, 5548, 6243, 6245, 6234, 6249, 6247]
def axk115_h : Hook := (fun _ _ _ _ => none)
def axb95 : EBlk := .cells [(.slice none 0 0), (.slice none 0 0), (.slice (some ⟨39225, 0, none⟩) 2 FULL), (.slice (some ⟨39484, 0, none⟩) 1 FULL), (.slice (some ⟨40179, 0, none⟩) 1 1), (.slice (some ⟨40181, 0, none⟩) 1 1), (.slice (some ⟨40185, 0, none⟩) 1 1), (.slice none 0 0), (.slice (some ⟨234471, 0, none⟩) 1 FULL), (.slice (some ⟨162974, 0, none⟩) 2 FULL), (.slice (some ⟨162974, 0, none⟩) 2 FULL), (.slice (some ⟨234497, 0, none⟩) 1 FULL), (.slice (some ⟨304910, 0, none⟩) 2 FULL), (.slice (some ⟨305234, 0, none⟩) 2 FULL), (.int .i64 93), (.slice (some ⟨265795, 0, none⟩) 2 FULL), (.bool false), (.slice none 0 0), (.slice none 0 0)] 125 1
/-- (*railplan/railplanref39.Traffic).second -/
def axk116 : Cut where
  f := 47
  n := 304827
  args := [(.pointer (some ⟨194069, 0, none⟩))]
  pre := [(194069, axb94), (39225, axb4), (39484, axb5), (40179, axb12), (40181, axb23), (40170, axb14), (40185, axb24), (40183, axb16), (234471, axb31), (234460, axb26), (162974, axb30), (162788, .cells [(.int .i64 0), (.int .i64 0)] 247 2), (162955, .cells [(.int .i64 0), (.int .i64 1)] 247 2), (234497, axb83), (300647, .cells [(.int .i64 (-16))] 3 1), (300659, .cells [(.int .i64 0)] 3 1), (300672, .cells [(.int .i64 45)] 3 1), (304437, axb84), (304761, axb85), (265795, axb86)]
  v := (.bool true)
  post := [(194069, axb95), (39225, axb4), (39484, axb5), (40179, axb12), (40181, axb23), (40170, axb14), (40185, axb24), (40183, axb16), (234471, axb31), (234460, axb26), (162974, axb30), (162788, .cells [(.int .i64 0), (.int .i64 0)] 247 2), (162955, .cells [(.int .i64 0), (.int .i64 1)] 247 2), (234497, axb83), (300647, .cells [(.int .i64 (-16))] 3 1), (300659, .cells [(.int .i64 0)] 3 1), (300672, .cells [(.int .i64 45)] 3 1), (304910, axb84), (305234, axb85), (265795, axb86)]
  n2 := 305266
  frame := [40189, 5289, 5548, 6243, 6245, 6234, 6249, 6247]
def axk116_h : Hook := (fun _ _ _ _ => none)
def axb96 : EBlk := .cells [(.slice none 0 0), (.slice none 0 0), (.slice (some ⟨39225, 0, none⟩) 2 FULL), (.slice (some ⟨39484, 0, none⟩) 1 FULL), (.slice (some ⟨40179, 0, none⟩) 1 1), (.slice (some ⟨40181, 0, none⟩) 1 1), (.slice (some ⟨40185, 0, none⟩) 1 1), (.slice none 0 0), (.slice (some ⟨234471, 0, none⟩) 1 FULL), (.slice (some ⟨162974, 0, none⟩) 2 FULL), (.slice (some ⟨162974, 0, none⟩) 2 FULL), (.slice (some ⟨234497, 0, none⟩) 1 FULL), (.slice (some ⟨305383, 0, none⟩) 2 FULL), (.slice (some ⟨305707, 0, none⟩) 2 FULL), (.int .i64 94), (.slice (some ⟨265795, 0, none⟩) 2 FULL), (.bool false), (.slice none 0 0), (.slice none 0 0)] 125 1
/-- (*railplan/railplanref39.Traffic).second -/
def axk117 : Cut where
  f := 47
  n := 305300
  args := [(.pointer (some ⟨194069, 0, none⟩))]
  pre := [(194069, axb95), (39225, axb4), (39484, axb5), (40179, axb12), (40181, axb23), (40170, axb14), (40185, axb24), (40183, axb16), (234471, axb31), (234460, axb26), (162974, axb30), (162788, .cells [(.int .i64 0), (.int .i64 0)] 247 2), (162955, .cells [(.int .i64 0), (.int .i64 1)] 247 2), (234497, axb83), (300647, .cells [(.int .i64 (-16))] 3 1), (300659, .cells [(.int .i64 0)] 3 1), (300672, .cells [(.int .i64 45)] 3 1), (304910, axb84), (305234, axb85), (265795, axb86)]
  v := (.bool true)
  post := [(194069, axb96), (39225, axb4), (39484, axb5), (40179, axb12), (40181, axb23), (40170, axb14), (40185, axb24), (40183, axb16), (234471, axb31), (234460, axb26), (162974, axb30), (162788, .cells [(.int .i64 0), (.int .i64 0)] 247 2), (162955, .cells [(.int .i64 0), (.int .i64 1)] 247 2), (234497, axb83), (300647, .cells [(.int .i64 (-16))] 3 1), (300659, .cells [(.int .i64 0)] 3 1), (300672, .cells [(.int .i64 45)] 3 1), (305383, axb84), (305707, axb85), (265795, axb86)]
  n2 := 305739
  frame := [40189, 5289, 5548, 6243, 6245, 6234, 6249, 6247]
def axk117_h : Hook := (fun _ _ _ _ => none)
def axb97 : EBlk := .cells [(.slice none 0 0), (.slice none 0 0), (.slice (some ⟨39225, 0, none⟩) 2 FULL), (.slice (some ⟨39484, 0, none⟩) 1 FULL), (.slice (some ⟨40179, 0, none⟩) 1 1), (.slice (some ⟨40181, 0, none⟩) 1 1), (.slice (some ⟨40185, 0, none⟩) 1 1), (.slice none 0 0), (.slice (some ⟨234471, 0, none⟩) 1 FULL), (.slice (some ⟨162974, 0, none⟩) 2 FULL), (.slice (some ⟨162974, 0, none⟩) 2 FULL), (.slice (some ⟨234497, 0, none⟩) 1 FULL), (.slice (some ⟨305856, 0, none⟩) 2 FULL), (.slice (some ⟨306180, 0, none⟩) 2 FULL), (.int .i64 95), (.slice (some ⟨265795, 0, none⟩) 2 FULL), (.bool false), (.slice none 0 0), (.slice none 0 0)] 125 1
/-- (*railplan/railplanref39.Traffic).second -/
def axk118 : Cut where
  f := 47
  n := 305773
  args := [(.pointer (some ⟨194069, 0, none⟩))]
  pre := [(194069, axb96), (39225, axb4), (39484, axb5), (40179, axb12), (40181, axb23), (40170, axb14), (40185, axb24), (40183, axb16), (234471, axb31), (234460, axb26), (162974, axb30), (162788, .cells [(.int .i64 0), (.int .i64 0)] 247 2), (162955, .cells [(.int .i64 0), (.int .i64 1)] 247 2), (234497, axb83), (300647, .cells [(.int .i64 (-16))] 3 1), (300659, .cells [(.int .i64 0)] 3 1), (300672, .cells [(.int .i64 45)] 3 1), (305383, axb84), (305707, axb85), (265795, axb86)]
  v := (.bool true)
  post := [(194069, axb97), (39225, axb4), (39484, axb5), (40179, axb12), (40181, axb23), (40170, axb14), (40185, axb24), (40183, axb16), (234471, axb31), (234460, axb26), (162974, axb30), (162788, .cells [(.int .i64 0), (.int .i64 0)] 247 2), (162955, .cells [(.int .i64 0), (.int .i64 1)] 247 2), (234497, axb83), (300647, .cells [(.int .i64 (-16))] 3 1), (300659, .cells [(.int .i64 0)] 3 1), (300672, .cells [(.int .i64 45)] 3 1), (305856, axb84), (306180, axb85), (265795, axb86)]
  n2 := 306212
  frame := [40189, 5289, 5548, 6243, 6245, 6234, 6249, 6247]
def axk118_h : Hook := (fun _ _ _ _ => none)
def axb98 : EBlk := .cells [(.slice none 0 0), (.slice none 0 0), (.slice (some ⟨39225, 0, none⟩) 2 FULL), (.slice (some ⟨39484, 0, none⟩) 1 FULL), (.slice (some ⟨40179, 0, none⟩) 1 1), (.slice (some ⟨40181, 0, none⟩) 1 1), (.slice (some ⟨40185, 0, none⟩) 1 1), (.slice none 0 0), (.slice (some ⟨234471, 0, none⟩) 1 FULL), (.slice (some ⟨162974, 0, none⟩) 2 FULL), (.slice (some ⟨162974, 0, none⟩) 2 FULL), (.slice (some ⟨234497, 0, none⟩) 1 FULL), (.slice (some ⟨306329, 0, none⟩) 2 FULL), (.slice (some ⟨306653, 0, none⟩) 2 FULL), (.int .i64 96), (.slice (some ⟨265795, 0, none⟩) 2 FULL), (.bool false), (.slice none 0 0), (.slice none 0 0)] 125 1
/-- (*railplan/railplanref39.Traffic).second -/
def axk119 : Cut where
  f := 47
  n := 306246
  args := [(.pointer (some ⟨194069, 0, none⟩))]
  pre := [(194069, axb97), (39225, axb4), (39484, axb5), (40179, axb12), (40181, axb23), (40170, axb14), (40185, axb24), (40183, axb16), (234471, axb31), (234460, axb26), (162974, axb30), (162788, .cells [(.int .i64 0), (.int .i64 0)] 247 2), (162955, .cells [(.int .i64 0), (.int .i64 1)] 247 2), (234497, axb83), (300647, .cells [(.int .i64 (-16))] 3 1), (300659, .cells [(.int .i64 0)] 3 1), (300672, .cells [(.int .i64 45)] 3 1), (305856, axb84), (306180, axb85), (265795, axb86)]
  v := (.bool true)
  post := [(194069, axb98), (39225, axb4), (39484, axb5), (40179, axb12), (40181, axb23), (40170, axb14), (40185, axb24), (40183, axb16), (234471, axb31), (234460, axb26), (162974, axb30), (162788, .cells [(.int .i64 0), (.int .i64 0)] 247 2), (162955, .cells [(.int .i64 0), (.int .i64 1)] 247 2), (234497, axb83), (300647, .cells [(.int .i64 (-16))] 3 1), (300659, .cells [(.int .i64 0)] 3 1), (300672, .cells [(.int .i64 45)] 3 1), (306329, axb84), (306653, axb85), (265795, axb86)]
  n2 := 306685
  frame := [40189, 5289, 5548, 6243, 6245, 6234, 6249, 6247]
def axk119_h : Hook := (fun _ _ _ _ => none)
def axb99 : EBlk := .cells [(.slice none 0 0), (.slice none 0 0), (.slice (some ⟨39225, 0, none⟩) 2 FULL), (.slice (some ⟨39484, 0, none⟩) 1 FULL), (.slice (some ⟨40179, 0, none⟩) 1 1), (.slice (some ⟨40181, 0, none⟩) 1 1), (.slice (some ⟨40185, 0, none⟩) 1 1), (.slice none 0 0), (.slice (some ⟨234471, 0, none⟩) 1 FULL), (.slice (some ⟨162974, 0, none⟩) 2 FULL), (.slice (some ⟨162974, 0, none⟩) 2 FULL), (.slice (some ⟨234497, 0, none⟩) 1 FULL), (.slice (some ⟨306802, 0, none⟩) 2 FULL), (.slice (some ⟨307126, 0, none⟩) 2 FULL), (.int .i64 97), (.slice (some ⟨265795, 0, none⟩) 2 FULL), (.bool false), (.slice none 0 0), (.slice none 0 0)] 125 1
/-- (*railplan/railplanref39.Traffic).second -/
def axk120 : Cut where
  f := 47
  n := 306719
  args := [(.pointer (some ⟨194069, 0, none⟩))]
  pre := [(194069, axb98), (39225, axb4), (39484, axb5), (40179, axb12), (40181, axb23), (40170, axb14), (40185, axb24), (40183, axb16), (234471, axb31), (234460, axb26), (162974, axb30), (162788, .cells [(.int .i64 0), (.int .i64 0)] 247 2), (162955, .cells [(.int .i64 0), (.int .i64 1)] 247 2), (234497, axb83), (300647, .cells [(.int .i64 (-16))] 3 1), (300659, .cells [(.int .i64 0)] 3 1), (300672, .cells [(.int .i64 45)] 3 1), (306329, axb84), (306653, axb85), (265795, axb86)]
  v := (.bool true)
  post := [(194069, axb99), (39225, axb4), (39484, axb5), (40179, axb12), (40181, axb23), (40170, axb14), (40185, axb24), (40183, axb16), (234471, axb31), (234460, axb26), (162974, axb30), (162788, .cells [(.int .i64 0), (.int .i64 0)] 247 2), (162955, .cells [(.int .i64 0), (.int .i64 1)] 247 2), (234497, axb83), (300647, .cells [(.int .i64 (-16))] 3 1), (300659, .cells [(.int .i64 0)] 3 1), (300672, .cells [(.int .i64 45)] 3 1), (306802, axb84), (307126, axb85), (265795, axb86)]
  n2 := 307158
  frame := [40189, 5289, 5548, 6243, 6245, 6234, 6249, 6247]
def axk120_h : Hook := (fun _ _ _ _ => none)
def axb100 : EBlk := .cells [(.slice none 0 0), (.slice none 0 0), (.slice (some ⟨39225, 0, none⟩) 2 FULL), (.slice (some ⟨39484, 0, none⟩) 1 FULL), (.slice (some ⟨40179, 0, none⟩) 1 1), (.slice (some ⟨40181, 0, none⟩) 1 1), (.slice (some ⟨40185, 0, none⟩) 1 1), (.slice none 0 0), (.slice (some ⟨234471, 0, none⟩) 1 FULL), (.slice (some ⟨162974, 0, none⟩) 2 FULL), (.slice (some ⟨162974, 0, none⟩) 2 FULL), (.slice (some ⟨234497, 0, none⟩) 1 FULL), (.slice (some ⟨307275, 0, none⟩) 2 FULL), (.slice (some ⟨307599, 0, none⟩) 2 FULL), (.int .i64 98), (.slice (some ⟨265795, 0, none⟩) 2 FULL), (.bool false), (.slice none 0 0), (.slice none 0 0)] 125 1
/-- (*railplan/railplanref39.Traffic).second -/
def axk121 : Cut where
  f := 47
  n := 307192
  args := [(.pointer (some ⟨194069, 0, none⟩))]
  pre := [(194069, axb99), (39225, axb4), (39484, axb5), (40179, axb12), (40181, axb23), (40170, axb14), (40185, axb24), (40183, axb16), (234471, axb31), (234460, axb26), (162974, axb30), (162788, .cells [(.int .i64 0), (.int .i64 0)] 247 2), (162955, .cells [(.int .i64 0), (.int .i64 1)] 247 2), (234497, axb83), (300647, .cells [(.int .i64 (-16))] 3 1), (300659, .cells [(.int .i64 0)] 3 1), (300672, .cells [(.int .i64 45)] 3 1), (306802, axb84), (307126, axb85), (265795, axb86)]
  v := (.bool true)
  post := [(194069, axb100), (39225, axb4), (39484, axb5), (40179, axb12), (40181, axb23), (40170, axb14), (40185, axb24), (40183, axb16), (234471, axb31), (234460, axb26), (162974, axb30), (162788, .cells [(.int .i64 0), (.int .i64 0)] 247 2), (162955, .cells [(.int .i64 0), (.int .i64 1)] 247 2), (234497, axb83), (300647, .cells [(.int .i64 (-16))] 3 1), (300659, .cells [(.int .i64 0)] 3 1), (300672, .cells [(.int .i64 45)] 3 1), (307275, axb84), (307599, axb85), (265795, axb86)]
  n2 := 307631
  frame := [40189, 5289, 5548, 6243, 6245, 6234, 6249, 6247]
def axk121_h : Hook := (fun _ _ _ _ => none)
def axb101 : EBlk := .cells [(.slice none 0 0), (.slice none 0 0), (.slice (some ⟨39225, 0, none⟩) 2 FULL), (.slice (some ⟨39484, 0, none⟩) 1 FULL), (.slice (some ⟨40179, 0, none⟩) 1 1), (.slice (some ⟨40181, 0, none⟩) 1 1), (.slice (some ⟨40185, 0, none⟩) 1 1), (.slice none 0 0), (.slice (some ⟨234471, 0, none⟩) 1 FULL), (.slice (some ⟨162974, 0, none⟩) 2 FULL), (.slice (some ⟨162974, 0, none⟩) 2 FULL), (.slice (some ⟨234497, 0, none⟩) 1 FULL), (.slice (some ⟨307748, 0, none⟩) 2 FULL), (.slice (some ⟨308072, 0, none⟩) 2 FULL), (.int .i64 99), (.slice (some ⟨265795, 0, none⟩) 2 FULL), (.bool false), (.slice none 0 0), (.slice none 0 0)] 125 1
/-- (*railplan/railplanref39.Traffic).second -/
def axk122 : Cut where
  f := 47
  n := 307665
  args := [(.pointer (some ⟨194069, 0, none⟩))]
  pre := [(194069, axb100), (39225, axb4), (39484, axb5), (40179, axb12), (40181, axb23), (40170, axb14), (40185, axb24), (40183, axb16), (234471, axb31), (234460, axb26), (162974, axb30), (162788, .cells [(.int .i64 0), (.int .i64 0)] 247 2), (162955, .cells [(.int .i64 0), (.int .i64 1)] 247 2), (234497, axb83), (300647, .cells [(.int .i64 (-16))] 3 1), (300659, .cells [(.int .i64 0)] 3 1), (300672, .cells [(.int .i64 45)] 3 1), (307275, axb84), (307599, axb85), (265795, axb86)]
  v := (.bool true)
  post := [(194069, axb101), (39225, axb4), (39484, axb5), (40179, axb12), (40181, axb23), (40170, axb14), (40185, axb24), (40183, axb16), (234471, axb31), (234460, axb26), (162974, axb30), (162788, .cells [(.int .i64 0), (.int .i64 0)] 247 2), (162955, .cells [(.int .i64 0), (.int .i64 1)] 247 2), (234497, axb83), (300647, .cells [(.int .i64 (-16))] 3 1), (300659, .cells [(.int .i64 0)] 3 1), (300672, .cells [(.int .i64 45)] 3 1), (307748, axb84), (308072, axb85), (265795, axb86)]
  n2 := 308104
  frame := [40189, 5289, 5548, 6243, 6245, 6234, 6249, 6247]
def axk122_h : Hook := (fun _ _ _ _ => none)
def axb102 : EBlk := .cells [(.slice none 0 0), (.slice none 0 0), (.slice (some ⟨39225, 0, none⟩) 2 FULL), (.slice (some ⟨39484, 0, none⟩) 1 FULL), (.slice (some ⟨40179, 0, none⟩) 1 1), (.slice (some ⟨40181, 0, none⟩) 1 1), (.slice (some ⟨40185, 0, none⟩) 1 1), (.slice none 0 0), (.slice (some ⟨234471, 0, none⟩) 1 FULL), (.slice (some ⟨162974, 0, none⟩) 2 FULL), (.slice (some ⟨162974, 0, none⟩) 2 FULL), (.slice (some ⟨234497, 0, none⟩) 1 FULL), (.slice (some ⟨308221, 0, none⟩) 2 FULL), (.slice (some ⟨308545, 0, none⟩) 2 FULL), (.int .i64 100), (.slice (some ⟨265795, 0, none⟩) 2 FULL), (.bool false), (.slice none 0 0), (.slice none 0 0)] 125 1
/-- (*railplan/railplanref39.Traffic).second -/
def axk123 : Cut where
  f := 47
  n := 308138
  args := [(.pointer (some ⟨194069, 0, none⟩))]
  pre := [(194069, axb101), (39225, axb4), (39484, axb5), (40179, axb12), (40181, axb23), (40170, axb14), (40185, axb24), (40183, axb16), (234471, axb31), (234460, axb26), (162974, axb30), (162788, .cells [(.int .i64 0), (.int .i64 0)] 247 2), (162955, .cells [(.int .i64 0), (.int .i64 1)] 247 2), (234497, axb83), (300647, .cells [(.int .i64 (-16))] 3 1), (300659, .cells [(.int .i64 0)] 3 1), (300672, .cells [(.int .i64 45)] 3 1), (307748, axb84), (308072, axb85), (265795, axb86)]
  v := (.bool true)
  post := [(194069, axb102), (39225, axb4), (39484, axb5), (40179, axb12), (40181, axb23), (40170, axb14), (40185, axb24), (40183, axb16), (234471, axb31), (234460, axb26), (162974, axb30), (162788, .cells [(.int .i64 0), (.int .i64 0)] 247 2), (162955, .cells [(.int .i64 0), (.int .i64 1)] 247 2), (234497, axb83), (300647, .cells [(.int .i64 (-16))] 3 1), (300659, .cells [(.int .i64 0)] 3 1), (300672, .cells [(.int .i64 45)] 3 1), (308221, axb84), (308545, axb85), (265795, axb86)]
  n2 := 308577
  frame := [40189, 5289, 5548, 6243, 6245, 6234, 6249, 6247]
def axk123_h : Hook := (fun _ _ _ _ => none)
def axb103 : EBlk := .cells [(.slice none 0 0), (.slice none 0 0), (.slice (some ⟨39225, 0, none⟩) 2 FULL), (.slice (some ⟨39484, 0, none⟩) 1 FULL), (.slice (some ⟨40179, 0, none⟩) 1 1), (.slice (some ⟨40181, 0, none⟩) 1 1), (.slice (some ⟨40185, 0, none⟩) 1 1), (.slice none 0 0), (.slice (some ⟨234471, 0, none⟩) 1 FULL), (.slice (some ⟨162974, 0, none⟩) 2 FULL), (.slice (some ⟨162974, 0, none⟩) 2 FULL), (.slice (some ⟨234497, 0, none⟩) 1 FULL), (.slice (some ⟨308694, 0, none⟩) 2 FULL), (.slice (some ⟨309034, 0, none⟩) 1 FULL), (.int .i64 101), (.slice (some ⟨309007, 0, none⟩) 3 FULL), (.bool false), (.slice none 0 0), (.slice none 0 0)] 125 1
def axb104 : EBlk := .cells [(.int .i64 141), (.int .i64 2), (.int .i64 0), (.int .i64 0), (.int .i64 1), (.int .i64 0)] 32 6
def axb105 : EBlk := .cells [(.int .i64 40), (.int .i64 5), (.int .i64 0), (.int .i64 0), (.int .i64 0), (.int .i64 0), (.int .i64 84), (.int .i64 5), (.int .i64 0), (.int .i64 0), (.int .i64 1), (.int .i64 0), (.int .i64 100), (.int .i64 8), (.int .i64 0), (.int .i64 0), (.int .i64 0), (.int .i64 0)] 32 6
/-- (*railplan/railplanref39.Traffic).second -/
def axk124 : Cut where
  f := 47
  n := 308611
  args := [(.pointer (some ⟨194069, 0, none⟩))]
  pre := [(194069, axb102), (39225, axb4), (39484, axb5), (40179, axb12), (40181, axb23), (40170, axb14), (40185, axb24), (40183, axb16), (234471, axb31), (234460, axb26), (162974, axb30), (162788, .cells [(.int .i64 0), (.int .i64 0)] 247 2), (162955, .cells [(.int .i64 0), (.int .i64 1)] 247 2), (234497, axb83), (300647, .cells [(.int .i64 (-16))] 3 1), (300659, .cells [(.int .i64 0)] 3 1), (300672, .cells [(.int .i64 45)] 3 1), (308221, axb84), (308545, axb85), (265795, axb86)]
  v := (.bool true)
  post := [(194069, axb103), (39225, axb4), (39484, axb5), (40179, axb12), (40181, axb23), (40170, axb14), (40185, axb24), (40183, axb16), (234471, axb31), (234460, axb26), (162974, axb30), (162788, .cells [(.int .i64 0), (.int .i64 0)] 247 2), (162955, .cells [(.int .i64 0), (.int .i64 1)] 247 2), (234497, axb83), (300647, .cells [(.int .i64 (-16))] 3 1), (300659, .cells [(.int .i64 0)] 3 1), (300672, .cells [(.int .i64 45)] 3 1), (308694, axb84), (309034, axb104), (309007, axb105)]
  n2 := 309066
  frame := [40189, 5289, 5548, 6243, 6245, 6234, 6249, 6247]
def axk124_h : Hook := (fun _ _ _ _ => none)
def axb106 : EBlk := .cells [(.slice none 0 0), (.slice none 0 0), (.slice (some ⟨39225, 0, none⟩) 2 FULL), (.slice (some ⟨39484, 0, none⟩) 1 FULL), (.slice (some ⟨40179, 0, none⟩) 1 1), (.slice (some ⟨40181, 0, none⟩) 1 1), (.slice (some ⟨40185, 0, none⟩) 1 1), (.slice none 0 0), (.slice (some ⟨234471, 0, none⟩) 1 FULL), (.slice (some ⟨162974, 0, none⟩) 2 FULL), (.slice (some ⟨162974, 0, none⟩) 2 FULL), (.slice (some ⟨234497, 0, none⟩) 1 FULL), (.slice (some ⟨309183, 0, none⟩) 2 FULL), (.slice (some ⟨309457, 0, none⟩) 1 FULL), (.int .i64 102), (.slice (some ⟨309007, 0, none⟩) 3 FULL), (.bool false), (.slice none 0 0), (.slice none 0 0)] 125 1
/-- (*railplan/railplanref39.Traffic).second -/
def axk125 : Cut where
  f := 47
  n := 309100
  args := [(.pointer (some ⟨194069, 0, none⟩))]
  pre := [(194069, axb103), (39225, axb4), (39484, axb5), (40179, axb12), (40181, axb23), (40170, axb14), (40185, axb24), (40183, axb16), (234471, axb31), (234460, axb26), (162974, axb30), (162788, .cells [(.int .i64 0), (.int .i64 0)] 247 2), (162955, .cells [(.int .i64 0), (.int .i64 1)] 247 2), (234497, axb83), (300647, .cells [(.int .i64 (-16))] 3 1), (300659, .cells [(.int .i64 0)] 3 1), (300672, .cells [(.int .i64 45)] 3 1), (308694, axb84), (309034, axb104), (309007, axb105)]
  v := (.bool true)
  post := [(194069, axb106), (39225, axb4), (39484, axb5), (40179, axb12), (40181, axb23), (40170, axb14), (40185, axb24), (40183, axb16), (234471, axb31), (234460, axb26), (162974, axb30), (162788, .cells [(.int .i64 0), (.int .i64 0)] 247 2), (162955, .cells [(.int .i64 0), (.int .i64 1)] 247 2), (234497, axb83), (300647, .cells [(.int .i64 (-16))] 3 1), (300659, .cells [(.int .i64 0)] 3 1), (300672, .cells [(.int .i64 45)] 3 1), (309183, axb84), (309457, axb104), (309007, axb105)]
  n2 := 309489
  frame := [40189, 5289, 5548, 6243, 6245, 6234, 6249, 6247]
def axk125_h : Hook := (fun _ _ _ _ => none)
def axb107 : EBlk := .cells [(.slice none 0 0), (.slice none 0 0), (.slice (some ⟨39225, 0, none⟩) 2 FULL), (.slice (some ⟨39484, 0, none⟩) 1 FULL), (.slice (some ⟨40179, 0, none⟩) 1 1), (.slice (some ⟨40181, 0, none⟩) 1 1), (.slice (some ⟨40185, 0, none⟩) 1 1), (.slice none 0 0), (.slice (some ⟨234471, 0, none⟩) 1 FULL), (.slice (some ⟨162974, 0, none⟩) 2 FULL), (.slice (some ⟨162974, 0, none⟩) 2 FULL), (.slice (some ⟨234497, 0, none⟩) 1 FULL), (.slice (some ⟨309606, 0, none⟩) 2 FULL), (.slice (some ⟨309880, 0, none⟩) 1 FULL), (.int .i64 103), (.slice (some ⟨309007, 0, none⟩) 3 FULL), (.bool false), (.slice none 0 0), (.slice none 0 0)] 125 1
/-- (*railplan/railplanref39.Traffic).second -/
def axk126 : Cut where
  f := 47
  n := 309523
  args := [(.pointer (some ⟨194069, 0, none⟩))]
  pre := [(194069, axb106), (39225, axb4), (39484, axb5), (40179, axb12), (40181, axb23), (40170, axb14), (40185, axb24), (40183, axb16), (234471, axb31), (234460, axb26), (162974, axb30), (162788, .cells [(.int .i64 0), (.int .i64 0)] 247 2), (162955, .cells [(.int .i64 0), (.int .i64 1)] 247 2), (234497, axb83), (300647, .cells [(.int .i64 (-16))] 3 1), (300659, .cells [(.int .i64 0)] 3 1), (300672, .cells [(.int .i64 45)] 3 1), (309183, axb84), (309457, axb104), (309007, axb105)]
  v := (.bool true)
  post := [(194069, axb107), (39225, axb4), (39484, axb5), (40179, axb12), (40181, axb23), (40170, axb14), (40185, axb24), (40183, axb16), (234471, axb31), (234460, axb26), (162974, axb30), (162788, .cells [(.int .i64 0), (.int .i64 0)] 247 2), (162955, .cells [(.int .i64 0), (.int .i64 1)] 247 2), (234497, axb83), (300647, .cells [(.int .i64 (-16))] 3 1), (300659, .cells [(.int .i64 0)] 3 1), (300672, .cells [(.int .i64 45)] 3 1), (309606, axb84), (309880, axb104), (309007, axb105)]
  n2 := 309912
  frame := [40189, 5289, 5548, 6243, 6245, 6234, 6249, 6247]
def axk126_h : Hook := (fun _ _ _ _ => none)
def axb108 : EBlk := .cells [(.slice none 0 0), (.slice none 0 0), (.slice (some ⟨39225, 0, none⟩) 2 FULL), (.slice (some ⟨39484, 0, none⟩) 1 FULL), (.slice (some ⟨40179, 0, none⟩) 1 1), (.slice (some ⟨40181, 0, none⟩) 1 1), (.slice (some ⟨40185, 0, none⟩) 1 1), (.slice none 0 0), (.slice (some ⟨234471, 0, none⟩) 1 FULL), (.slice (some ⟨162974, 0, none⟩) 2 FULL), (.slice (some ⟨162974, 0, none⟩) 2 FULL), (.slice (some ⟨234497, 0, none⟩) 1 FULL), (.slice (some ⟨310029, 0, none⟩) 2 FULL), (.slice (some ⟨310303, 0, none⟩) 1 FULL), (.int .i64 104), (.slice (some ⟨309007, 0, none⟩) 3 FULL), (.bool false), (.slice none 0 0), (.slice none 0 0)] 125 1
/-- (*railplan/railplanref39.Traffic).second -/
def axk127 : Cut where
  f := 47
  n := 309946
  args := [(.pointer (some ⟨194069, 0, none⟩))]
  pre := [(194069, axb107), (39225, axb4), (39484, axb5), (40179, axb12), (40181, axb23), (40170, axb14), (40185, axb24), (40183, axb16), (234471, axb31), (234460, axb26), (162974, axb30), (162788, .cells [(.int .i64 0), (.int .i64 0)] 247 2), (162955, .cells [(.int .i64 0), (.int .i64 1)] 247 2), (234497, axb83), (300647, .cells [(.int .i64 (-16))] 3 1), (300659, .cells [(.int .i64 0)] 3 1), (300672, .cells [(.int .i64 45)] 3 1), (309606, axb84), (309880, axb104), (309007, axb105)]
  v := (.bool true)
  post := [(194069, axb108), (39225, axb4), (39484, axb5), (40179, axb12), (40181, axb23), (40170, axb14), (40185, axb24), (40183, axb16), (234471, axb31), (234460, axb26), (162974, axb30), (162788, .cells [(.int .i64 0), (.int .i64 0)] 247 2), (162955, .cells [(.int .i64 0), (.int .i64 1)] 247 2), (234497, axb83), (300647, .cells [(.int .i64 (-16))] 3 1), (300659, .cells [(.int .i64 0)] 3 1), (300672, .cells [(.int .i64 45)] 3 1), (310029, axb84), (310303, axb104), (309007, axb105)]
  n2 := 310335
  frame := [40189, 5289, 5548, 6243, 6245, 6234, 6249, 6247]
def axk127_h : Hook := (fun _ _ _ _ => none)
def axb109 : EBlk := .cells [(.slice none 0 0), (.slice none 0 0), (.slice (some ⟨39225, 0, none⟩) 2 FULL), (.slice (some ⟨39484, 0, none⟩) 1 FULL), (.slice (some ⟨40179, 0, none⟩) 1 1), (.slice (some ⟨40181, 0, none⟩) 1 1), (.slice (some ⟨40185, 0, none⟩) 1 1), (.slice none 0 0), (.slice (some ⟨234471, 0, none⟩) 1 FULL), (.slice (some ⟨162974, 0, none⟩) 2 FULL), (.slice (some ⟨162974, 0, none⟩) 2 FULL), (.slice (some ⟨234497, 0, none⟩) 1 FULL), (.slice (some ⟨310452, 0, none⟩) 2 FULL), (.slice (some ⟨310726, 0, none⟩) 1 FULL), (.int .i64 105), (.slice (some ⟨309007, 0, none⟩) 3 FULL), (.bool false), (.slice none 0 0), (.slice none 0 0)] 125 1
/-- (*railplan/railplanref39.Traffic).second -/
def axk128 : Cut where
  f := 47
  n := 310369
  args := [(.pointer (some ⟨194069, 0, none⟩))]
  pre := [(194069, axb108), (39225, axb4), (39484, axb5), (40179, axb12), (40181, axb23), (40170, axb14), (40185, axb24), (40183, axb16), (234471, axb31), (234460, axb26), (162974, axb30), (162788, .cells [(.int .i64 0), (.int .i64 0)] 247 2), (162955, .cells [(.int .i64 0), (.int .i64 1)] 247 2), (234497, axb83), (300647, .cells [(.int .i64 (-16))] 3 1), (300659, .cells [(.int .i64 0)] 3 1), (300672, .cells [(.int .i64 45)] 3 1), (310029, axb84), (310303, axb104), (309007, axb105)]
  v := (.bool true)
  post := [(194069, axb109), (39225, axb4), (39484, axb5), (40179, axb12), (40181, axb23), (40170, axb14), (40185, axb24), (40183, axb16), (234471, axb31), (234460, axb26), (162974, axb30), (162788, .cells [(.int .i64 0), (.int .i64 0)] 247 2), (162955, .cells [(.int .i64 0), (.int .i64 1)] 247 2), (234497, axb83), (300647, .cells [(.int .i64 (-16))] 3 1), (300659, .cells [(.int .i64 0)] 3 1), (300672, .cells [(.int .i64 45)] 3 1), (310452, axb84), (310726, axb104), (309007, axb105)]
  n2 := 310758
  frame := [40189, 5289, 5548, 6243, 6245, 6234, 6249, 6247]
def axk128_h : Hook := (fun _ _ _ _ => none)
def axb110 : EBlk := .cells [(.slice none 0 0), (.slice none 0 0), (.slice (some ⟨39225, 0, none⟩) 2 FULL), (.slice (some ⟨39484, 0, none⟩) 1 FULL), (.slice (some ⟨40179, 0, none⟩) 1 1), (.slice (some ⟨40181, 0, none⟩) 1 1), (.slice (some ⟨40185, 0, none⟩) 1 1), (.slice none 0 0), (.slice (some ⟨234471, 0, none⟩) 1 FULL), (.slice (some ⟨162974, 0, none⟩) 2 FULL), (.slice (some ⟨162974, 0, none⟩) 2 FULL), (.slice (some ⟨234497, 0, none⟩) 1 FULL), (.slice (some ⟨310875, 0, none⟩) 2 FULL), (.slice (some ⟨311149, 0, none⟩) 1 FULL), (.int .i64 106), (.slice (some ⟨309007, 0, none⟩) 3 FULL), (.bool false), (.slice none 0 0), (.slice none 0 0)] 125 1
/-- (*railplan/railplanref39.Traffic).second -/
def axk129 : Cut where
  f := 47
  n := 310792
  args := [(.pointer (some ⟨194069, 0, none⟩))]
  pre := [(194069, axb109), (39225, axb4), (39484, axb5), (40179, axb12), (40181, axb23), (40170, axb14), (40185, axb24), (40183, axb16), (234471, axb31), (234460, axb26), (162974, axb30), (162788, .cells [(.int .i64 0), (.int .i64 0)] 247 2), (162955, .cells [(.int .i64 0), (.int .i64 1)] 247 2), (234497, axb83), (300647, .cells [(.int .i64 (-16))] 3 1), (300659, .cells [(.int .i64 0)] 3 1), (300672, .cells [(.int .i64 45)] 3 1), (310452, axb84), (310726, axb104), (309007, axb105)]
  v := (.bool true)
  post := [(194069, axb110), (39225, axb4), (39484, axb5), (40179, axb12), (40181, axb23), (40170, axb14), (40185, axb24), (40183, axb16), (234471, axb31), (234460, axb26), (162974, axb30), (162788, .cells [(.int .i64 0), (.int .i64 0)] 247 2), (162955, .cells [(.int .i64 0), (.int .i64 1)] 247 2), (234497, axb83), (300647, .cells [(.int .i64 (-16))] 3 1), (300659, .cells [(.int .i64 0)] 3 1), (300672, .cells [(.int .i64 45)] 3 1), (310875, axb84), (311149, axb104), (309007, axb105)]
  n2 := 311181
  frame := [40189, 5289, 5548, 6243, 6245, 6234, 6249, 6247]
def axk129_h : Hook := (fun _ _ _ _ => none)
def axb111 : EBlk := .cells [(.slice none 0 0), (.slice none 0 0), (.slice (some ⟨39225, 0, none⟩) 2 FULL), (.slice (some ⟨39484, 0, none⟩) 1 FULL), (.slice (some ⟨40179, 0, none⟩) 1 1), (.slice (some ⟨40181, 0, none⟩) 1 1), (.slice (some ⟨40185, 0, none⟩) 1 1), (.slice none 0 0), (.slice (some ⟨234471, 0, none⟩) 1 FULL), (.slice (some ⟨162974, 0, none⟩) 2 FULL), (.slice (some ⟨162974, 0, none⟩) 2 FULL), (.slice (some ⟨234497, 0, none⟩) 1 FULL), (.slice (some ⟨311298, 0, none⟩) 2 FULL), (.slice (some ⟨311572, 0, none⟩) 1 FULL), (.int .i64 107), (.slice (some ⟨309007, 0, none⟩) 3 FULL), (.bool false), (.slice none 0 0), (.slice none 0 0)] 125 1
/-- (*railplan/railplanref39.Traffic).second -/
def axk130 : Cut where
  f := 47
  n := 311215
  args := [(.pointer (some ⟨194069, 0, none⟩))]
  pre := [(194069, axb110), (39225, axb4), (39484, axb5), (40179, axb12), (40181, axb23), (40170, axb14), (40185, axb24), (40183, axb16), (234471, axb31), (234460, axb26), (162974, axb30), (162788, .cells [(.int .i64 0), (.int .i64 0)] 247 2), (162955, .cells [(.int .i64 0), (.int .i64 1)] 247 2), (234497, axb83), (300647, .cells [(.int .i64 (-16))] 3 1), (300659, .cells [(.int .i64 0)] 3 1), (300672, .cells [(.int .i64 45)] 3 1), (310875, axb84), (311149, axb104), (309007, axb105)]
  v := (.bool true)
  post := [(194069, axb111), (39225, axb4), (39484, axb5), (40179, axb12), (40181, axb23), (40170, axb14), (40185, axb24), (40183, axb16), (234471, axb31), (234460, axb26), (162974, axb30), (162788, .cells [(.int .i64 0), (.int .i64 0)] 247 2), (162955, .cells [(.int .i64 0), (.int .i64 1)] 247 2), (234497, axb83), (300647, .cells [(.int .i64 (-16))] 3 1), (300659, .cells [(.int .i64 0)] 3 1), (300672, .cells [(.int .i64 45)] 3 1), (311298, axb84), (311572, axb104), (309007, axb105)]
  n2 := 311604
  frame := [40189, 5289, 5548, 6243, 6245, 6234, 6249, 6247]
def axk130_h : Hook := (fun _ _ _ _ => none)
def axb112 : EBlk := .cells [(.slice none 0 0), (.slice none 0 0), (.slice (some ⟨39225, 0, none⟩) 2 FULL), (.slice (some ⟨39484, 0, none⟩) 1 FULL), (.slice (some ⟨40179, 0, none⟩) 1 1), (.slice (some ⟨40181, 0, none⟩) 1 1), (.slice (some ⟨40185, 0, none⟩) 1 1), (.slice none 0 0), (.slice (some ⟨234471, 0, none⟩) 1 FULL), (.slice (some ⟨162974, 0, none⟩) 2 FULL), (.slice (some ⟨162974, 0, none⟩) 2 FULL), (.slice (some ⟨234497, 0, none⟩) 1 FULL), (.slice (some ⟨311721, 0, none⟩) 2 FULL), (.slice (some ⟨311995, 0, none⟩) 1 FULL), (.int .i64 108), (.slice (some ⟨309007, 0, none⟩) 3 FULL), (.bool false), (.slice none 0 0), (.slice none 0 0)] 125 1
/-- (*railplan/railplanref39.Traffic).second -/
def axk131 : Cut where
  f := 47
  n := 311638
  args := [(.pointer (some ⟨194069, 0, none⟩))]
  pre := [(194069, axb111), (39225, axb4), (39484, axb5), (40179, axb12), (40181, axb23), (40170, axb14), (40185, axb24), (40183, axb16), (234471, axb31), (234460, axb26), (162974, axb30), (162788, .cells [(.int .i64 0), (.int .i64 0)] 247 2), (162955, .cells [(.int .i64 0), (.int .i64 1)] 247 2), (234497, axb83), (300647, .cells [(.int .i64 (-16))] 3 1), (300659, .cells [(.int .i64 0)] 3 1), (300672, .cells [(.int .i64 45)] 3 1), (311298, axb84), (311572, axb104), (309007, axb105)]
  v := (.bool true)
  post := [(194069, axb112), (39225, axb4), (39484, axb5), (40179, axb12), (40181, axb23), (40170, axb14), (40185, axb24), (40183, axb16), (234471, axb31), (234460, axb26), (162974, axb30), (162788, .cells [(.int .i64 0), (.int .i64 0)] 247 2), (162955, .cells [(.int .i64 0), (.int .i64 1)] 247 2), (234497, axb83), (300647, .cells [(.int .i64 (-16))] 3 1), (300659, .cells [(.int .i64 0)] 3 1), (300672, .cells [(.int .i64 45)] 3 1), (311721, axb84), (311995, axb104), (309007, axb105)]
  n2 := 312027
  frame := [40189, 5289, 5548, 6243, 6245, 6234, 6249, 6247]
def axk131_h : Hook := (fun _ _ _ _ => none)
def axb113 : EBlk := .cells [(.slice none 0 0), (.slice none 0 0), (.slice (some ⟨39225, 0, none⟩) 2 FULL), (.slice (some ⟨39484, 0, none⟩) 1 FULL), (.slice (some ⟨40179, 0, none⟩) 1 1), (.slice (some ⟨40181, 0, none⟩) 1 1), (.slice (some ⟨40185, 0, none⟩) 1 1), (.slice none 0 0), (.slice (some ⟨234471, 0, none⟩) 1 FULL), (.slice (some ⟨162974, 0, none⟩) 2 FULL), (.slice (some ⟨162974, 0, none⟩) 2 FULL), (.slice (some ⟨234497, 0, none⟩) 1 FULL), (.slice (some ⟨312144, 0, none⟩) 2 FULL), (.slice (some ⟨312418, 0, none⟩) 1 FULL), (.int .i64 109), (.slice (some ⟨309007, 0, none⟩) 3 FULL), (.bool false), (.slice none 0 0), (.slice none 0 0)] 125 1
/-- (*railplan/railplanref39.Traffic).second -/
def axk132 : Cut where
  f := 47
  n := 312061
  args := [(.pointer (some ⟨194069, 0, none⟩))]
  pre := [(194069, axb112), (39225, axb4), (39484, axb5), (40179, axb12), (40181, axb23), (40170, axb14), (40185, axb24), (40183, axb16), (234471, axb31), (234460, axb26), (162974, axb30), (162788, .cells [(.int .i64 0), (.int .i64 0)] 247 2), (162955, .cells [(.int .i64 0), (.int .i64 1)] 247 2), (234497, axb83), (300647, .cells [(.int .i64 (-16))] 3 1), (300659, .cells [(.int .i64 0)] 3 1), (300672, .cells [(.int .i64 45)] 3 1), (311721, axb84), (311995, axb104), (309007, axb105)]
  v := (.bool true)
  post := [(194069, axb113), (39225, axb4), (39484, axb5), (40179, axb12), (40181, axb23), (40170, axb14), (40185, axb24), (40183, axb16), (234471, axb31), (234460, axb26), (162974, axb30), (162788, .cells [(.int .i64 0), (.int .i64 0)] 247 2), (162955, .cells [(.int .i64 0), (.int .i64 1)] 247 2), (234497, axb83), (300647, .cells [(.int .i64 (-16))] 3 1), (300659, .cells [(.int .i64 0)] 3 1), (300672, .cells [(.int .i64 45)] 3 1), (312144, axb84), (312418, axb104), (309007, axb105)]
  n2 := 312450
  frame := [40189, 5289, 5548, 6243, 6245, 6234, 6249, 6247]
def axk132_h : Hook := (fun _ _ _ _ => none)
def axb114 : EBlk := .cells [(.slice none 0 0), (.slice none 0 0), (.slice (some ⟨39225, 0, none⟩) 2 FULL), (.slice (some ⟨39484, 0, none⟩) 1 FULL), (.slice (some ⟨40179, 0, none⟩) 1 1), (.slice (some ⟨40181, 0, none⟩) 1 1), (.slice (some ⟨40185, 0, none⟩) 1 1), (.slice none 0 0), (.slice (some ⟨234471, 0, none⟩) 1 FULL), (.slice (some ⟨162974, 0, none⟩) 2 FULL), (.slice (some ⟨162974, 0, none⟩) 2 FULL), (.slice (some ⟨234497, 0, none⟩) 1 FULL), (.slice (some ⟨312567, 0, none⟩) 2 FULL), (.slice (some ⟨312841, 0, none⟩) 1 FULL), (.int .i64 110), (.slice (some ⟨309007, 0, none⟩) 3 FULL), (.bool false), (.slice none 0 0), (.slice none 0 0)] 125 1
/-- (*railplan/railplanref39.Traffic).second -/
def axk133 : Cut where
  f := 47
  n := 312484
  args := [(.pointer (some ⟨194069, 0, none⟩))]
  pre := [(194069, axb113), (39225, axb4), (39484, axb5), (40179, axb12), (40181, axb23), (40170, axb14), (40185, axb24), (40183, axb16), (234471, axb31), (234460, axb26), (162974, axb30), (162788, .cells [(.int .i64 0), (.int .i64 0)] 247 2), (162955, .cells [(.int .i64 0), (.int .i64 1)] 247 2), (234497, axb83), (300647, .cells [(.int .i64 (-16))] 3 1), (300659, .cells [(.int .i64 0)] 3 1), (300672, .cells [(.int .i64 45)] 3 1), (312144, axb84), (312418, axb104), (309007, axb105)]
  v := (.bool true)
  post := [(194069, axb114), (39225, axb4), (39484, axb5), (40179, axb12), (40181, axb23), (40170, axb14), (40185, axb24), (40183, axb16), (234471, axb31), (234460, axb26), (162974, axb30), (162788, .cells [(.int .i64 0), (.int .i64 0)] 247 2), (162955, .cells [(.int .i64 0), (.int .i64 1)] 247 2), (234497, axb83), (300647, .cells [(.int .i64 (-16))] 3 1), (300659, .cells [(.int .i64 0)] 3 1), (300672, .cells [(.int .i64 45)] 3 1), (312567, axb84), (312841, axb104), (309007, axb105)]
  n2 := 312873
  frame := [40189, 5289, 5548, 6243, 6245, 6234, 6249, 6247]
def axk133_h : Hook := (fun _ _ _ _ => none)
def axb115 : EBlk := .cells [(.slice none 0 0), (.slice none 0 0), (.slice (some ⟨39225, 0, none⟩) 2 FULL), (.slice (some ⟨39484, 0, none⟩) 1 FULL), (.slice (some ⟨40179, 0, none⟩) 1 1), (.slice (some ⟨40181, 0, none⟩) 1 1), (.slice (some ⟨40185, 0, none⟩) 1 1), (.slice none 0 0), (.slice (some ⟨234471, 0, none⟩) 1 FULL), (.slice (some ⟨162974, 0, none⟩) 2 FULL), (.slice (some ⟨162974, 0, none⟩) 2 FULL), (.slice (some ⟨234497, 0, none⟩) 1 FULL), (.slice (some ⟨312990, 0, none⟩) 2 FULL), (.slice (some ⟨313264, 0, none⟩) 1 FULL), (.int .i64 111), (.slice (some ⟨309007, 0, none⟩) 3 FULL), (.bool false), (.slice none 0 0), (.slice none 0 0)] 125 1
/-- (*railplan/railplanref39.Traffic).second -/
def axk134 : Cut where
  f := 47
  n := 312907
  args := [(.pointer (some ⟨194069, 0, none⟩))]
  pre := [(194069, axb114), (39225, axb4), (39484, axb5), (40179, axb12), (40181, axb23), (40170, axb14), (40185, axb24), (40183, axb16), (234471, axb31), (234460, axb26), (162974, axb30), (162788, .cells [(.int .i64 0), (.int .i64 0)] 247 2), (162955, .cells [(.int .i64 0), (.int .i64 1)] 247 2), (234497, axb83), (300647, .cells [(.int .i64 (-16))] 3 1), (300659, .cells [(.int .i64 0)] 3 1), (300672, .cells [(.int .i64 45)] 3 1), (312567, axb84), (312841, axb104), (309007, axb105)]
  v := (.bool true)
  post := [(194069, axb115), (39225, axb4), (39484, axb5), (40179, axb12), (40181, axb23), (40170, axb14), (40185, axb24), (40183, axb16), (234471, axb31), (234460, axb26), (162974, axb30), (162788, .cells [(.int .i64 0), (.int .i64 0)] 247 2), (162955, .cells [(.int .i64 0), (.int .i64 1)] 247 2), (234497, axb83), (300647, .cells [(.int .i64 (-16))] 3 1), (300659, .cells [(.int .i64 0)] 3 1), (300672, .cells [(.int .i64 45)] 3 1), (312990, axb84), (313264, axb104), (309007, axb105)]
  n2 := 313296
  frame := [40189, 5289, 5548, 6243, 6245, 6234, 6249, 6247]
def axk134_h : Hook := (fun _ _ _ _ => none)
def axb116 : EBlk := .cells [(.slice none 0 0), (.slice none 0 0), (.slice (some ⟨39225, 0, none⟩) 2 FULL), (.slice (some ⟨39484, 0, none⟩) 1 FULL), (.slice (some ⟨40179, 0, none⟩) 1 1), (.slice (some ⟨40181, 0, none⟩) 1 1), (.slice (some ⟨40185, 0, none⟩) 1 1), (.slice none 0 0), (.slice (some ⟨234471, 0, none⟩) 1 FULL), (.slice (some ⟨162974, 0, none⟩) 2 FULL), (.slice (some ⟨162974, 0, none⟩) 2 FULL), (.slice (some ⟨234497, 0, none⟩) 1 FULL), (.slice (some ⟨313413, 0, none⟩) 2 FULL), (.slice (some ⟨313687, 0, none⟩) 1 FULL), (.int .i64 112), (.slice (some ⟨309007, 0, none⟩) 3 FULL), (.bool false), (.slice none 0 0), (.slice none 0 0)] 125 1
/-- (*railplan/railplanref39.Traffic).second -/
def axk135 : Cut where
  f := 47
  n := 313330
  args := [(.pointer (some ⟨194069, 0, none⟩))]
  pre := [(194069, axb115), (39225, axb4), (39484, axb5), (40179, axb12), (40181, axb23), (40170, axb14), (40185, axb24), (40183, axb16), (234471, axb31), (234460, axb26), (162974, axb30), (162788, .cells [(.int .i64 0), (.int .i64 0)] 247 2), (162955, .cells [(.int .i64 0), (.int .i64 1)] 247 2), (234497, axb83), (300647, .cells [(.int .i64 (-16))] 3 1), (300659, .cells [(.int .i64 0)] 3 1), (300672, .cells [(.int .i64 45)] 3 1), (312990, axb84), (313264, axb104), (309007, axb105)]
  v := (.bool true)
  post := [(194069, axb116), (39225, axb4), (39484, axb5), (40179, axb12), (40181, axb23), (40170, axb14), (40185, axb24), (40183, axb16), (234471, axb31), (234460, axb26), (162974, axb30), (162788, .cells [(.int .i64 0), (.int .i64 0)] 247 2), (162955, .cells [(.int .i64 0), (.int .i64 1)] 247 2), (234497, axb83), (300647, .cells [(.int .i64 (-16))] 3 1), (300659, .cells [(.int .i64 0)] 3 1), (300672, .cells [(.int .i64 45)] 3 1), (313413, axb84), (313687, axb104), (309007, axb105)]
  n2 := 313719
  frame := [40189, 5289, 5548, 6243, 6245, 6234, 6249, 6247]
def axk135_h : Hook := (fun _ _ _ _ => none)
def axb117 : EBlk := .cells [(.slice none 0 0), (.slice none 0 0), (.slice (some ⟨39225, 0, none⟩) 2 FULL), (.slice (some ⟨39484, 0, none⟩) 1 FULL), (.slice (some ⟨40179, 0, none⟩) 1 1), (.slice (some ⟨40181, 0, none⟩) 1 1), (.slice (some ⟨40185, 0, none⟩) 1 1), (.slice none 0 0), (.slice (some ⟨234471, 0, none⟩) 1 FULL), (.slice (some ⟨162974, 0, none⟩) 2 FULL), (.slice (some ⟨162974, 0, none⟩) 2 FULL), (.slice (some ⟨234497, 0, none⟩) 1 FULL), (.slice (some ⟨313836, 0, none⟩) 2 FULL), (.slice (some ⟨314110, 0, none⟩) 1 FULL), (.int .i64 113), (.slice (some ⟨309007, 0, none⟩) 3 FULL), (.bool false), (.slice none 0 0), (.slice none 0 0)] 125 1
/-- (*railplan/railplanref39.Traffic).second -/
def axk136 : Cut where
  f := 47
  n := 313753
  args := [(.pointer (some ⟨194069, 0, none⟩))]
  pre := [(194069, axb116), (39225, axb4), (39484, axb5), (40179, axb12), (40181, axb23), (40170, axb14), (40185, axb24), (40183, axb16), (234471, axb31), (234460, axb26), (162974, axb30), (162788, .cells [(.int .i64 0), (.int .i64 0)] 247 2), (162955, .cells [(.int .i64 0), (.int .i64 1)] 247 2), (234497, axb83), (300647, .cells [(.int .i64 (-16))] 3 1), (300659, .cells [(.int .i64 0)] 3 1), (300672, .cells [(.int .i64 45)] 3 1), (313413, axb84), (313687, axb104), (309007, axb105)]
  v := (.bool true)
  post := [(194069, axb117), (39225, axb4), (39484, axb5), (40179, axb12), (40181, axb23), (40170, axb14), (40185, axb24), (40183, axb16), (234471, axb31), (234460, axb26), (162974, axb30), (162788, .cells [(.int .i64 0), (.int .i64 0)] 247 2), (162955, .cells [(.int .i64 0), (.int .i64 1)] 247 2), (234497, axb83), (300647, .cells [(.int .i64 (-16))] 3 1), (300659, .cells [(.int .i64 0)] 3 1), (300672, .cells [(.int .i64 45)] 3 1), (313836, axb84), (314110, axb104), (309007, axb105)]
  n2 := 314142
  frame := [40189, 5289, 5548, 6243, 6245, 6234, 6249, 6247]
def axk136_h : Hook := (fun _ _ _ _ => none)
def axb118 : EBlk := .cells [(.slice none 0 0), (.slice none 0 0), (.slice (some ⟨39225, 0, none⟩) 2 FULL), (.slice (some ⟨39484, 0, none⟩) 1 FULL), (.slice (some ⟨40179, 0, none⟩) 1 1), (.slice (some ⟨40181, 0, none⟩) 1 1), (.slice (some ⟨40185, 0, none⟩) 1 1), (.slice none 0 0), (.slice (some ⟨234471, 0, none⟩) 1 FULL), (.slice (some ⟨162974, 0, none⟩) 2 FULL), (.slice (some ⟨162974, 0, none⟩) 2 FULL), (.slice (some ⟨234497, 0, none⟩) 1 FULL), (.slice (some ⟨314259, 0, none⟩) 2 FULL), (.slice (some ⟨314533, 0, none⟩) 1 FULL), (.int .i64 114), (.slice (some ⟨309007, 0, none⟩) 3 FULL), (.bool false), (.slice none 0 0), (.slice none 0 0)] 125 1
/-- (*railplan/railplanref39.Traffic).second -/
def axk137 : Cut where
  f := 47
  n := 314176
  args := [(.pointer (some ⟨194069, 0, none⟩))]
  pre := [(194069, axb117), (39225, axb4), (39484, axb5), (40179, axb12), (40181, axb23), (40170, axb14), (40185, axb24), (40183, axb16), (234471, axb31), (234460, axb26), (162974, axb30), (162788, .cells [(.int .i64 0), (.int .i64 0)] 247 2), (162955, .cells [(.int .i64 0), (.int .i64 1)] 247 2), (234497, axb83), (300647, .cells [(.int .i64 (-16))] 3 1), (300659, .cells [(.int .i64 0)] 3 1), (300672, .cells [(.int .i64 45)] 3 1), (313836, axb84), (314110, axb104), (309007, axb105)]
  v := (.bool true)
  post := [(194069, axb118), (39225, axb4), (39484, axb5), (40179, axb12), (40181, axb23), (40170, axb14), (40185, axb24), (40183, axb16), (234471, axb31), (234460, axb26), (162974, axb30), (162788, .cells [(.int .i64 0), (.int .i64 0)] 247 2), (162955, .cells [(.int .i64 0), (.int .i64 1)] 247 2), (234497, axb83), (300647, .cells [(.int .i64 (-16))] 3 1), (300659, .cells [(.int .i64 0)] 3 1), (300672, .cells [(.int .i64 45)] 3 1), (314259, axb84), (314533, axb104), (309007, axb105)]
  n2 := 314565
  frame := [40189, 5289, 5548, 6243, 6245, 6234, 6249, 6247]
def axk137_h : Hook := (fun _ _ _ _ => none)
def axb119 : EBlk := .cells [(.slice none 0 0), (.slice none 0 0), (.slice (some ⟨39225, 0, none⟩) 2 FULL), (.slice (some ⟨39484, 0, none⟩) 1 FULL), (.slice (some ⟨40179, 0, none⟩) 1 1), (.slice (some ⟨40181, 0, none⟩) 1 1), (.slice (some ⟨40185, 0, none⟩) 1 1), (.slice none 0 0), (.slice (some ⟨234471, 0, none⟩) 1 FULL), (.slice (some ⟨162974, 0, none⟩) 2 FULL), (.slice (some ⟨162974, 0, none⟩) 2 FULL), (.slice (some ⟨234497, 0, none⟩) 1 FULL), (.slice (some ⟨314682, 0, none⟩) 2 FULL), (.slice (some ⟨314956, 0, none⟩) 1 FULL), (.int .i64 115), (.slice (some ⟨309007, 0, none⟩) 3 FULL), (.bool false), (.slice none 0 0), (.slice none 0 0)] 125 1
/-- (*railplan/railplanref39.Traffic).second -/
def axk138 : Cut where
  f := 47
  n := 314599
  args := [(.pointer (some ⟨194069, 0, none⟩))]
  pre := [(194069, axb118), (39225, axb4), (39484, axb5), (40179, axb12), (40181, axb23), (40170, axb14), (40185, axb24), (40183, axb16), (234471, axb31), (234460, axb26), (162974, axb30), (162788, .cells [(.int .i64 0), (.int .i64 0)] 247 2), (162955, .cells [(.int .i64 0), (.int .i64 1)] 247 2), (234497, axb83), (300647, .cells [(.int .i64 (-16))] 3 1), (300659, .cells [(.int .i64 0)] 3 1), (300672, .cells [(.int .i64 45)] 3 1), (314259, axb84), (314533, axb104), (309007, axb105)]
  v := (.bool true)
  post := [(194069, axb119), (39225, axb4), (39484, axb5), (40179, axb12), (40181, axb23), (40170, axb14), (40185, axb24), (40183, axb16), (234471, axb31), (234460, axb26), (162974, axb30), (162788, .cells [(.int .i64 0), (.int .i64 0)] 247 2), (162955, .cells [(.int .i64 0), (.int .i64 1)] 247 2), (234497, axb83), (300647, .cells [(.int .i64 (-16))] 3 1), (300659, .cells [(.int .i64 0)] 3 1), (300672, .cells [(.int .i64 45)] 3 1), (314682, axb84), (314956, axb104), (309007, axb105)]
  n2 := 314988
  frame := [40189, 5289, 5548, 6243, 6245, 6234, 6249, 6247]
def axk138_h : Hook := (fun _ _ _ _ => none)
def axb120 : EBlk := .cells [(.slice none 0 0), (.slice none 0 0), (.slice (some ⟨39225, 0, none⟩) 2 FULL), (.slice (some ⟨39484, 0, none⟩) 1 FULL), (.slice (some ⟨40179, 0, none⟩) 1 1), (.slice (some ⟨40181, 0, none⟩) 1 1), (.slice (some ⟨40185, 0, none⟩) 1 1), (.slice none 0 0), (.slice (some ⟨234471, 0, none⟩) 1 FULL), (.slice (some ⟨162974, 0, none⟩) 2 FULL), (.slice (some ⟨162974, 0, none⟩) 2 FULL), (.slice (some ⟨234497, 0, none⟩) 1 FULL), (.slice (some ⟨315105, 0, none⟩) 2 FULL), (.slice (some ⟨315379, 0, none⟩) 1 FULL), (.int .i64 116), (.slice (some ⟨309007, 0, none⟩) 3 FULL), (.bool false), (.slice none 0 0), (.slice none 0 0)] 125 1
/-- (*railplan/railplanref39.Traffic).second -/
def axk139 : Cut where
  f := 47
  n := 315022
  args := [(.pointer (some ⟨194069, 0, none⟩))]
  pre := [(194069, axb119), (39225, axb4), (39484, axb5), (40179, axb12), (40181, axb23), (40170, axb14), (40185, axb24), (40183, axb16), (234471, axb31), (234460, axb26), (162974, axb30), (162788, .cells [(.int .i64 0), (.int .i64 0)] 247 2), (162955, .cells [(.int .i64 0), (.int .i64 1)] 247 2), (234497, axb83), (300647, .cells [(.int .i64 (-16))] 3 1), (300659, .cells [(.int .i64 0)] 3 1), (300672, .cells [(.int .i64 45)] 3 1), (314682, axb84), (314956, axb104), (309007, axb105)]
  v := (.bool true)
  post := [(194069, axb120), (39225, axb4), (39484, axb5), (40179, axb12), (40181, axb23), (40170, axb14), (40185, axb24), (40183, axb16), (234471, axb31), (234460, axb26), (162974, axb30), (162788, .cells [(.int .i64 0), (.int .i64 0)] 247 2), (162955, .cells [(.int .i64 0), (.int .i64 1)] 247 2), (234497, axb83), (300647, .cells [(.int .i64 (-16))] 3 1), (300659, .cells [(.int .i64 0)] 3 1), (300672, .cells [(.int .i64 45)] 3 1), (315105, axb84), (315379, axb104), (309007, axb105)]
  n2 := 315411
  frame := [40189, 5289, 5548, 6243, 6245, 6234, 6249, 6247]
def axk139_h : Hook := (fun _ _ _ _ => none)
def axb121 : EBlk := .cells [(.slice none 0 0), (.slice none 0 0), (.slice (some ⟨39225, 0, none⟩) 2 FULL), (.slice (some ⟨39484, 0, none⟩) 1 FULL), (.slice (some ⟨40179, 0, none⟩) 1 1), (.slice (some ⟨40181, 0, none⟩) 1 1), (.slice (some ⟨40185, 0, none⟩) 1 1), (.slice none 0 0), (.slice (some ⟨234471, 0, none⟩) 1 FULL), (.slice (some ⟨162974, 0, none⟩) 2 FULL), (.slice (some ⟨162974, 0, none⟩) 2 FULL), (.slice (some ⟨234497, 0, none⟩) 1 FULL), (.slice (some ⟨315528, 0, none⟩) 2 FULL), (.slice (some ⟨315802, 0, none⟩) 1 FULL), (.int .i64 117), (.slice (some ⟨309007, 0, none⟩) 3 FULL), (.bool false), (.slice none 0 0), (.slice none 0 0)] 125 1
/-- (*railplan/railplanref39.Traffic).second -/
def axk140 : Cut where
  f := 47
  n := 315445
  args := [(.pointer (some ⟨194069, 0, none⟩))]
  pre := [(194069, axb120), (39225, axb4), (39484, axb5), (40179, axb12), (40181, axb23), (40170, axb14), (40185, axb24), (40183, axb16), (234471, axb31), (234460, axb26), (162974, axb30), (162788, .cells [(.int .i64 0), (.int .i64 0)] 247 2), (162955, .cells [(.int .i64 0), (.int .i64 1)] 247 2), (234497, axb83), (300647, .cells [(.int .i64 (-16))] 3 1), (300659, .cells [(.int .i64 0)] 3 1), (300672, .cells [(.int .i64 45)] 3 1), (315105, axb84), (315379, axb104), (309007, axb105)]
  v := (.bool true)
  post := [(194069, axb121), (39225, axb4), (39484, axb5), (40179, axb12), (40181, axb23), (40170, axb14), (40185, axb24), (40183, axb16), (234471, axb31), (234460, axb26), (162974, axb30), (162788, .cells [(.int .i64 0), (.int .i64 0)] 247 2), (162955, .cells [(.int .i64 0), (.int .i64 1)] 247 2), (234497, axb83), (300647, .cells [(.int .i64 (-16))] 3 1), (300659, .cells [(.int .i64 0)] 3 1), (300672, .cells [(.int .i64 45)] 3 1), (315528, axb84), (315802, axb104), (309007, axb105)]
  n2 := 315834
  frame := [40189, 5289, 5548, 6243, 6245, 6234, 6249, 6247]
def axk140_h : Hook := (fun _ _ _ _ => none)
def axb122 : EBlk := .cells [(.slice none 0 0), (.slice none 0 0), (.slice (some ⟨39225, 0, none⟩) 2 FULL), (.slice (some ⟨39484, 0, none⟩) 1 FULL), (.slice (some ⟨40179, 0, none⟩) 1 1), (.slice (some ⟨40181, 0, none⟩) 1 1), (.slice (some ⟨40185, 0, none⟩) 1 1), (.slice none 0 0), (.slice (some ⟨234471, 0, none⟩) 1 FULL), (.slice (some ⟨162974, 0, none⟩) 2 FULL), (.slice (some ⟨162974, 0, none⟩) 2 FULL), (.slice (some ⟨234497, 0, none⟩) 1 FULL), (.slice (some ⟨315951, 0, none⟩) 2 FULL), (.slice (some ⟨316225, 0, none⟩) 1 FULL), (.int .i64 118), (.slice (some ⟨309007, 0, none⟩) 3 FULL), (.bool false), (.slice none 0 0), (.slice none 0 0)] 125 1
/-- (*railplan/railplanref39.Traffic).second -/
def axk141 : Cut where
  f := 47
  n := 315868
  args := [(.pointer (some ⟨194069, 0, none⟩))]
  pre := [(194069, axb121), (39225, axb4), (39484, axb5), (40179, axb12), (40181, axb23), (40170, axb14), (40185, axb24), (40183, axb16), (234471, axb31), (234460, axb26), (162974, axb30), (162788, .cells [(.int .i64 0), (.int .i64 0)] 247 2), (162955, .cells [(.int .i64 0), (.int .i64 1)] 247 2), (234497, axb83), (300647, .cells [(.int .i64 (-16))] 3 1), (300659, .cells [(.int .i64 0)] 3 1), (300672, .cells [(.int .i64 45)] 3 1), (315528, axb84), (315802, axb104), (309007, axb105)]
  v := (.bool true)
  post := [(194069, axb122), (39225, axb4), (39484, axb5), (40179, axb12), (40181, axb23), (40170, axb14), (40185, axb24), (40183, axb16), (234471, axb31), (234460, axb26), (162974, axb30), (162788, .cells [(.int .i64 0), (.int .i64 0)] 247 2), (162955, .cells [(.int .i64 0), (.int .i64 1)] 247 2), (234497, axb83), (300647, .cells [(.int .i64 (-16))] 3 1), (300659, .cells [(.int .i64 0)] 3 1), (300672, .cells [(.int .i64 45)] 3 1), (315951, axb84), (316225, axb104), (309007, axb105)]
  n2 := 316257
  frame := [40189, 5289, 5548, 6243, 6245, 6234, 6249, 6247]
def axk141_h : Hook := (fun _ _ _ _ => none)
def axb123 : EBlk := .cells [(.slice none 0 0), (.slice none 0 0), (.slice (some ⟨39225, 0, none⟩) 2 FULL), (.slice (some ⟨39484, 0, none⟩) 1 FULL), (.slice (some ⟨40179, 0, none⟩) 1 1), (.slice (some ⟨40181, 0, none⟩) 1 1), (.slice (some ⟨40185, 0, none⟩) 1 1), (.slice none 0 0), (.slice (some ⟨234471, 0, none⟩) 1 FULL), (.slice (some ⟨162974, 0, none⟩) 2 FULL), (.slice (some ⟨162974, 0, none⟩) 2 FULL), (.slice (some ⟨234497, 0, none⟩) 1 FULL), (.slice (some ⟨316374, 0, none⟩) 2 FULL), (.slice (some ⟨316648, 0, none⟩) 1 FULL), (.int .i64 119), (.slice (some ⟨309007, 0, none⟩) 3 FULL), (.bool false), (.slice none 0 0), (.slice none 0 0)] 125 1
/-- (*railplan/railplanref39.Traffic).second -/
def axk142 : Cut where
  f := 47
  n := 316291
  args := [(.pointer (some ⟨194069, 0, none⟩))]
  pre := [(194069, axb122), (39225, axb4), (39484, axb5), (40179, axb12), (40181, axb23), (40170, axb14), (40185, axb24), (40183, axb16), (234471, axb31), (234460, axb26), (162974, axb30), (162788, .cells [(.int .i64 0), (.int .i64 0)] 247 2), (162955, .cells [(.int .i64 0), (.int .i64 1)] 247 2), (234497, axb83), (300647, .cells [(.int .i64 (-16))] 3 1), (300659, .cells [(.int .i64 0)] 3 1), (300672, .cells [(.int .i64 45)] 3 1), (315951, axb84), (316225, axb104), (309007, axb105)]
  v := (.bool true)
  post := [(194069, axb123), (39225, axb4), (39484, axb5), (40179, axb12), (40181, axb23), (40170, axb14), (40185, axb24), (40183, axb16), (234471, axb31), (234460, axb26), (162974, axb30), (162788, .cells [(.int .i64 0), (.int .i64 0)] 247 2), (162955, .cells [(.int .i64 0), (.int .i64 1)] 247 2), (234497, axb83), (300647, .cells [(.int .i64 (-16))] 3 1), (300659, .cells [(.int .i64 0)] 3 1), (300672, .cells [(.int .i64 45)] 3 1), (316374, axb84), (316648, axb104), (309007, axb105)]
  n2 := 316680
  frame := [40189, 5289, 5548, 6243, 6245, 6234, 6249, 6247]
def axk142_h : Hook := (fun _ _ _ _ => none)
def axb124 : EBlk := .cells [(.slice none 0 0), (.slice none 0 0), (.slice (some ⟨39225, 0, none⟩) 2 FULL), (.slice (some ⟨39484, 0, none⟩) 1 FULL), (.slice (some ⟨40179, 0, none⟩) 1 1), (.slice (some ⟨40181, 0, none⟩) 1 1), (.slice (some ⟨40185, 0, none⟩) 1 1), (.slice none 0 0), (.slice (some ⟨234471, 0, none⟩) 1 FULL), (.slice (some ⟨162974, 0, none⟩) 2 FULL), (.slice (some ⟨162974, 0, none⟩) 2 FULL), (.slice (some ⟨234497, 0, none⟩) 1 FULL), (.slice (some ⟨316797, 0, none⟩) 2 FULL), (.slice (some ⟨317071, 0, none⟩) 1 FULL), (.int .i64 120), (.slice (some ⟨309007, 0, none⟩) 3 FULL), (.bool false), (.slice none 0 0), (.slice none 0 0)] 125 1
/-- (*railplan/railplanref39.Traffic).second -/
def axk143 : Cut where
  f := 47
  n := 316714
  args := [(.pointer (some ⟨194069, 0, none⟩))]
  pre := [(194069, axb123), (39225, axb4), (39484, axb5), (40179, axb12), (40181, axb23), (40170, axb14), (40185, axb24), (40183, axb16), (234471, axb31), (234460, axb26), (162974, axb30), (162788, .cells [(.int .i64 0), (.int .i64 0)] 247 2), (162955, .cells [(.int .i64 0), (.int .i64 1)] 247 2), (234497, axb83), (300647, .cells [(.int .i64 (-16))] 3 1), (300659, .cells [(.int .i64 0)] 3 1), (300672, .cells [(.int .i64 45)] 3 1), (316374, axb84), (316648, axb104), (309007, axb105)]
  v := (.bool true)
  post := [(194069, axb124), (39225, axb4), (39484, axb5), (40179, axb12), (40181, axb23), (40170, axb14), (40185, axb24), (40183, axb16), (234471, axb31), (234460, axb26), (162974, axb30), (162788, .cells [(.int .i64 0), (.int .i64 0)] 247 2), (162955, .cells [(.int .i64 0), (.int .i64 1)] 247 2), (234497, axb83), (300647, .cells [(.int .i64 (-16))] 3 1), (300659, .cells [(.int .i64 0)] 3 1), (300672, .cells [(.int .i64 45)] 3 1), (316797, axb84), (317071, axb104), (309007, axb105)]
  n2 := 317103
  frame := [40189, 5289, 5548, 6243, 6245, 6234, 6249, 6247]
def axk143_h : Hook := (fun _ _ _ _ => none)
def axb125 : EBlk := .cells [(.slice none 0 0), (.slice none 0 0), (.slice (some ⟨39225, 0, none⟩) 2 FULL), (.slice (some ⟨39484, 0, none⟩) 1 FULL), (.slice (some ⟨40179, 0, none⟩) 1 1), (.slice (some ⟨40181, 0, none⟩) 1 1), (.slice (some ⟨40185, 0, none⟩) 1 1), (.slice none 0 0), (.slice (some ⟨234471, 0, none⟩) 1 FULL), (.slice (some ⟨162974, 0, none⟩) 2 FULL), (.slice (some ⟨162974, 0, none⟩) 2 FULL), (.slice (some ⟨234497, 0, none⟩) 1 FULL), (.slice (some ⟨317220, 0, none⟩) 2 FULL), (.slice (some ⟨317494, 0, none⟩) 1 FULL), (.int .i64 121), (.slice (some ⟨309007, 0, none⟩) 3 FULL), (.bool false), (.slice none 0 0), (.slice none 0 0)] 125 1
/-- (*railplan/railplanref39.Traffic).second -/
def axk144 : Cut where
  f := 47
  n := 317137
  args := [(.pointer (some ⟨194069, 0, none⟩))]
  pre := [(194069, axb124), (39225, axb4), (39484, axb5), (40179, axb12), (40181, axb23), (40170, axb14), (40185, axb24), (40183, axb16), (234471, axb31), (234460, axb26), (162974, axb30), (162788, .cells [(.int .i64 0), (.int .i64 0)] 247 2), (162955, .cells [(.int .i64 0), (.int .i64 1)] 247 2), (234497, axb83), (300647, .cells [(.int .i64 (-16))] 3 1), (300659, .cells [(.int .i64 0)] 3 1), (300672, .cells [(.int .i64 45)] 3 1), (316797, axb84), (317071, axb104), (309007, axb105)]
  v := (.bool true)
  post := [(194069, axb125), (39225, axb4), (39484, axb5), (40179, axb12), (40181, axb23), (40170, axb14), (40185, axb24), (40183, axb16), (234471, axb31), (234460, axb26), (162974, axb30), (162788, .cells [(.int .i64 0), (.int .i64 0)] 247 2), (162955, .cells [(.int .i64 0), (.int .i64 1)] 247 2), (234497, axb83), (300647, .cells [(.int .i64 (-16))] 3 1), (300659, .cells [(.int .i64 0)] 3 1), (300672, .cells [(.int .i64 45)] 3 1), (317220, axb84), (317494, axb104), (309007, axb105)]
  n2 := 317526
  frame := [40189, 5289, 5548, 6243, 6245, 6234, 6249, 6247]
def axk144_h : Hook := (fun _ _ _ _ => none)
def axb126 : EBlk := .cells [(.slice none 0 0), (.slice none 0 0), (.slice (some ⟨39225, 0, none⟩) 2 FULL), (.slice (some ⟨39484, 0, none⟩) 1 FULL), (.slice (some ⟨40179, 0, none⟩) 1 1), (.slice (some ⟨40181, 0, none⟩) 1 1), (.slice (some ⟨40185, 0, none⟩) 1 1), (.slice none 0 0), (.slice (some ⟨234471, 0, none⟩) 1 FULL), (.slice (some ⟨162974, 0, none⟩) 2 FULL), (.slice (some ⟨162974, 0, none⟩) 2 FULL), (.slice (some ⟨234497, 0, none⟩) 1 FULL), (.slice (some ⟨317643, 0, none⟩) 2 FULL), (.slice (some ⟨317917, 0, none⟩) 1 FULL), (.int .i64 122), (.slice (some ⟨309007, 0, none⟩) 3 FULL), (.bool false), (.slice none 0 0), (.slice none 0 0)] 125 1
/-- (*railplan/railplanref39.Traffic).second -/
def axk145 : Cut where
  f := 47
  n := 317560
  args := [(.pointer (some ⟨194069, 0, none⟩))]
  pre := [(194069, axb125), (39225, axb4), (39484, axb5), (40179, axb12), (40181, axb23), (40170, axb14), (40185, axb24), (40183, axb16), (234471, axb31), (234460, axb26), (162974, axb30), (162788, .cells [(.int .i64 0), (.int .i64 0)] 247 2), (162955, .cells [(.int .i64 0), (.int .i64 1)] 247 2), (234497, axb83), (300647, .cells [(.int .i64 (-16))] 3 1), (300659, .cells [(.int .i64 0)] 3 1), (300672, .cells [(.int .i64 45)] 3 1), (317220, axb84), (317494, axb104), (309007, axb105)]
  v := (.bool true)
  post := [(194069, axb126), (39225, axb4), (39484, axb5), (40179, axb12), (40181, axb23), (40170, axb14), (40185, axb24), (40183, axb16), (234471, axb31), (234460, axb26), (162974, axb30), (162788, .cells [(.int .i64 0), (.int .i64 0)] 247 2), (162955, .cells [(.int .i64 0), (.int .i64 1)] 247 2), (234497, axb83), (300647, .cells [(.int .i64 (-16))] 3 1), (300659, .cells [(.int .i64 0)] 3 1), (300672, .cells [(.int .i64 45)] 3 1), (317643, axb84), (317917, axb104), (309007, axb105)]
  n2 := 317949
  frame := [40189, 5289, 5548, 6243, 6245, 6234, 6249, 6247]
def axk145_h : Hook := (fun _ _ _ _ => none)
def axb127 : EBlk := .cells [(.slice none 0 0), (.slice none 0 0), (.slice (some ⟨39225, 0, none⟩) 2 FULL), (.slice (some ⟨39484, 0, none⟩) 1 FULL), (.slice (some ⟨40179, 0, none⟩) 1 1), (.slice (some ⟨40181, 0, none⟩) 1 1), (.slice (some ⟨40185, 0, none⟩) 1 1), (.slice none 0 0), (.slice (some ⟨234471, 0, none⟩) 1 FULL), (.slice (some ⟨162974, 0, none⟩) 2 FULL), (.slice (some ⟨162974, 0, none⟩) 2 FULL), (.slice (some ⟨234497, 0, none⟩) 1 FULL), (.slice (some ⟨318066, 0, none⟩) 2 FULL), (.slice (some ⟨318340, 0, none⟩) 1 FULL), (.int .i64 123), (.slice (some ⟨309007, 0, none⟩) 3 FULL), (.bool false), (.slice none 0 0), (.slice none 0 0)] 125 1
/-- (*railplan/railplanref39.Traffic).second -/
def axk146 : Cut where
  f := 47
  n := 317983
  args := [(.pointer (some ⟨194069, 0, none⟩))]
  pre := [(194069, axb126), (39225, axb4), (39484, axb5), (40179, axb12), (40181, axb23), (40170, axb14), (40185, axb24), (40183, axb16), (234471, axb31), (234460, axb26), (162974, axb30), (162788, .cells [(.int .i64 0), (.int .i64 0)] 247 2), (162955, .cells [(.int .i64 0), (.int .i64 1)] 247 2), (234497, axb83), (300647, .cells [(.int .i64 (-16))] 3 1), (300659, .cells [(.int .i64 0)] 3 1), (300672, .cells [(.int .i64 45)] 3 1), (317643, axb84), (317917, axb104), (309007, axb105)]
  v := (.bool true)
  post := [(194069, axb127), (39225, axb4), (39484, axb5), (40179, axb12), (40181, axb23), (40170, axb14), (40185, axb24), (40183, axb16), (234471, axb31), (234460, axb26), (162974, axb30), (162788, .cells [(.int .i64 0), (.int .i64 0)] 247 2), (162955, .cells [(.int .i64 0), (.int .i64 1)] 247 2), (234497, axb83), (300647, .cells [(.int .i64 (-16))] 3 1), (300659, .cells [(.int .i64 0)] 3 1), (300672, .cells [(.int .i64 45)] 3 1), (318066, axb84), (318340, axb104), (309007, axb105)]
  n2 := 318372
  frame := [40189, 5289, 5548, 6243, 6245, 6234, 6249, 6247]
def axk146_h : Hook := (fun _ _ _ _ => none)
def axb128 : EBlk := .cells [(.slice none 0 0), (.slice none 0 0), (.slice (some ⟨39225, 0, none⟩) 2 FULL), (.slice (some ⟨39484, 0, none⟩) 1 FULL), (.slice (some ⟨40179, 0, none⟩) 1 1), (.slice (some ⟨40181, 0, none⟩) 1 1), (.slice (some ⟨40185, 0, none⟩) 1 1), (.slice none 0 0), (.slice (some ⟨234471, 0, none⟩) 1 FULL), (.slice (some ⟨162974, 0, none⟩) 2 FULL), (.slice (some ⟨162974, 0, none⟩) 2 FULL), (.slice (some ⟨234497, 0, none⟩) 1 FULL), (.slice (some ⟨318489, 0, none⟩) 2 FULL), (.slice (some ⟨318763, 0, none⟩) 1 FULL), (.int .i64 124), (.slice (some ⟨309007, 0, none⟩) 3 FULL), (.bool false), (.slice none 0 0), (.slice none 0 0)] 125 1
/-- (*railplan/railplanref39.Traffic).second -/
def axk147 : Cut where
  f := 47
  n := 318406
  args := [(.pointer (some ⟨194069, 0, none⟩))]
  pre := [(194069, axb127), (39225, axb4), (39484, axb5), (40179, axb12), (40181, axb23), (40170, axb14), (40185, axb24), (40183, axb16), (234471, axb31), (234460, axb26), (162974, axb30), (162788, .cells [(.int .i64 0), (.int .i64 0)] 247 2), (162955, .cells [(.int .i64 0), (.int .i64 1)] 247 2), (234497, axb83), (300647, .cells [(.int .i64 (-16))] 3 1), (300659, .cells [(.int .i64 0)] 3 1), (300672, .cells [(.int .i64 45)] 3 1), (318066, axb84), (318340, axb104), (309007, axb105)]
  v := (.bool true)
  post := [(194069, axb128), (39225, axb4), (39484, axb5), (40179, axb12), (40181, axb23), (40170, axb14), (40185, axb24), (40183, axb16), (234471, axb31), (234460, axb26), (162974, axb30), (162788, .cells [(.int .i64 0), (.int .i64 0)] 247 2), (162955, .cells [(.int .i64 0), (.int .i64 1)] 247 2), (234497, axb83), (300647, .cells [(.int .i64 (-16))] 3 1), (300659, .cells [(.int .i64 0)] 3 1), (300672, .cells [(.int .i64 45)] 3 1), (318489, axb84), (318763, axb104), (309007, axb105)]
  n2 := 318795
  frame := [40189, 5289, 5548, 6243, 6245, 6234, 6249, 6247]
def axk147_h : Hook := (fun _ _ _ _ => none)
def axb129 : EBlk := .cells [(.slice none 0 0), (.slice none 0 0), (.slice (some ⟨39225, 0, none⟩) 2 FULL), (.slice (some ⟨39484, 0, none⟩) 1 FULL), (.slice (some ⟨40179, 0, none⟩) 1 1), (.slice (some ⟨40181, 0, none⟩) 1 1), (.slice (some ⟨40185, 0, none⟩) 1 1), (.slice none 0 0), (.slice (some ⟨234471, 0, none⟩) 1 FULL), (.slice (some ⟨162974, 0, none⟩) 2 FULL), (.slice (some ⟨162974, 0, none⟩) 2 FULL), (.slice (some ⟨234497, 0, none⟩) 1 FULL), (.slice (some ⟨318912, 0, none⟩) 2 FULL), (.slice (some ⟨319186, 0, none⟩) 1 FULL), (.int .i64 125), (.slice (some ⟨309007, 0, none⟩) 3 FULL), (.bool false), (.slice none 0 0), (.slice none 0 0)] 125 1
/-- (*railplan/railplanref39.Traffic).second -/
def axk148 : Cut where
  f := 47
  n := 318829
  args := [(.pointer (some ⟨194069, 0, none⟩))]
  pre := [(194069, axb128), (39225, axb4), (39484, axb5), (40179, axb12), (40181, axb23), (40170, axb14), (40185, axb24), (40183, axb16), (234471, axb31), (234460, axb26), (162974, axb30), (162788, .cells [(.int .i64 0), (.int .i64 0)] 247 2), (162955, .cells [(.int .i64 0), (.int .i64 1)] 247 2), (234497, axb83), (300647, .cells [(.int .i64 (-16))] 3 1), (300659, .cells [(.int .i64 0)] 3 1), (300672, .cells [(.int .i64 45)] 3 1), (318489, axb84), (318763, axb104), (309007, axb105)]
  v := (.bool true)
  post := [(194069, axb129), (39225, axb4), (39484, axb5), (40179, axb12), (40181, axb23), (40170, axb14), (40185, axb24), (40183, axb16), (234471, axb31), (234460, axb26), (162974, axb30), (162788, .cells [(.int .i64 0), (.int .i64 0)] 247 2), (162955, .cells [(.int .i64 0), (.int .i64 1)] 247 2), (234497, axb83), (300647, .cells [(.int .i64 (-16))] 3 1), (300659, .cells [(.int .i64 0)] 3 1), (300672, .cells [(.int .i64 45)] 3 1), (318912, axb84), (319186, axb104), (309007, axb105)]
  n2 := 319218
  frame := [40189, 5289, 5548, 6243, 6245, 6234, 6249, 6247]
def axk148_h : Hook := (fun _ _ _ _ => none)
def axb130 : EBlk := .cells [(.slice none 0 0), (.slice none 0 0), (.slice (some ⟨39225, 0, none⟩) 2 FULL), (.slice (some ⟨39484, 0, none⟩) 1 FULL), (.slice (some ⟨40179, 0, none⟩) 1 1), (.slice (some ⟨40181, 0, none⟩) 1 1), (.slice (some ⟨40185, 0, none⟩) 1 1), (.slice none 0 0), (.slice (some ⟨234471, 0, none⟩) 1 FULL), (.slice (some ⟨162974, 0, none⟩) 2 FULL), (.slice (some ⟨162974, 0, none⟩) 2 FULL), (.slice (some ⟨234497, 0, none⟩) 1 FULL), (.slice (some ⟨319335, 0, none⟩) 2 FULL), (.slice (some ⟨319609, 0, none⟩) 1 FULL), (.int .i64 126), (.slice (some ⟨309007, 0, none⟩) 3 FULL), (.bool false), (.slice none 0 0), (.slice none 0 0)] 125 1
/-- (*railplan/railplanref39.Traffic).second -/
def axk149 : Cut where
  f := 47
  n := 319252
  args := [(.pointer (some ⟨194069, 0, none⟩))]
  pre := [(194069, axb129), (39225, axb4), (39484, axb5), (40179, axb12), (40181, axb23), (40170, axb14), (40185, axb24), (40183, axb16), (234471, axb31), (234460, axb26), (162974, axb30), (162788, .cells [(.int .i64 0), (.int .i64 0)] 247 2), (162955, .cells [(.int .i64 0), (.int .i64 1)] 247 2), (234497, axb83), (300647, .cells [(.int .i64 (-16))] 3 1), (300659, .cells [(.int .i64 0)] 3 1), (300672, .cells [(.int .i64 45)] 3 1), (318912, axb84), (319186, axb104), (309007, axb105)]
  v := (.bool true)
  post := [(194069, axb130), (39225, axb4), (39484, axb5), (40179, axb12), (40181, axb23), (40170, axb14), (40185, axb24), (40183, axb16), (234471, axb31), (234460, axb26), (162974, axb30), (162788, .cells [(.int .i64 0), (.int .i64 0)] 247 2), (162955, .cells [(.int .i64 0), (.int .i64 1)] 247 2), (234497, axb83), (300647, .cells [(.int .i64 (-16))] 3 1), (300659, .cells [(.int .i64 0)] 3 1), (300672, .cells [(.int .i64 45)] 3 1), (319335, axb84), (319609, axb104), (309007, axb105)]
  n2 := 319641
  frame := [40189, 5289, 5548, 6243, 6245, 6234, 6249, 6247]
def axk149_h : Hook := (fun _ _ _ _ => none)
def axb131 : EBlk := .cells [(.slice none 0 0), (.slice none 0 0), (.slice (some ⟨39225, 0, none⟩) 2 FULL), (.slice (some ⟨39484, 0, none⟩) 1 FULL), (.slice (some ⟨40179, 0, none⟩) 1 1), (.slice (some ⟨40181, 0, none⟩) 1 1), (.slice (some ⟨40185, 0, none⟩) 1 1), (.slice none 0 0), (.slice (some ⟨234471, 0, none⟩) 1 FULL), (.slice (some ⟨162974, 0, none⟩) 2 FULL), (.slice (some ⟨162974, 0, none⟩) 2 FULL), (.slice (some ⟨234497, 0, none⟩) 1 FULL), (.slice (some ⟨319758, 0, none⟩) 2 FULL), (.slice (some ⟨320032, 0, none⟩) 1 FULL), (.int .i64 127), (.slice (some ⟨309007, 0, none⟩) 3 FULL), (.bool false), (.slice none 0 0), (.slice none 0 0)] 125 1
/-- (*railplan/railplanref39.Traffic).second -/
def axk150 : Cut where
  f := 47
  n := 319675
  args := [(.pointer (some ⟨194069, 0, none⟩))]
  pre := [(194069, axb130), (39225, axb4), (39484, axb5), (40179, axb12), (40181, axb23), (40170, axb14), (40185, axb24), (40183, axb16), (234471, axb31), (234460, axb26), (162974, axb30), (162788, .cells [(.int .i64 0), (.int .i64 0)] 247 2), (162955, .cells [(.int .i64 0), (.int .i64 1)] 247 2), (234497, axb83), (300647, .cells [(.int .i64 (-16))] 3 1), (300659, .cells [(.int .i64 0)] 3 1), (300672, .cells [(.int .i64 45)] 3 1), (319335, axb84), (319609, axb104), (309007, axb105)]
  v := (.bool true)
  post := [(194069, axb131), (39225, axb4), (39484, axb5), (40179, axb12), (40181, axb23), (40170, axb14), (40185, axb24), (40183, axb16), (234471, axb31), (234460, axb26), (162974, axb30), (162788, .cells [(.int .i64 0), (.int .i64 0)] 247 2), (162955, .cells [(.int .i64 0), (.int .i64 1)] 247 2), (234497, axb83), (300647, .cells [(.int .i64 (-16))] 3 1), (300659, .cells [(.int .i64 0)] 3 1), (300672, .cells [(.int .i64 45)] 3 1), (319758, axb84), (320032, axb104), (309007, axb105)]
  n2 := 320064
  frame := [40189, 5289, 5548, 6243, 6245, 6234, 6249, 6247]
def axk150_h : Hook := (fun _ _ _ _ => none)
def axb132 : EBlk := .cells [(.slice none 0 0), (.slice none 0 0), (.slice (some ⟨39225, 0, none⟩) 2 FULL), (.slice (some ⟨39484, 0, none⟩) 1 FULL), (.slice (some ⟨40179, 0, none⟩) 1 1), (.slice (some ⟨40181, 0, none⟩) 1 1), (.slice (some ⟨40185, 0, none⟩) 1 1), (.slice none 0 0), (.slice (some ⟨234471, 0, none⟩) 1 FULL), (.slice (some ⟨162974, 0, none⟩) 2 FULL), (.slice (some ⟨162974, 0, none⟩) 2 FULL), (.slice (some ⟨234497, 0, none⟩) 1 FULL), (.slice (some ⟨320181, 0, none⟩) 2 FULL), (.slice (some ⟨320455, 0, none⟩) 1 FULL), (.int .i64 128), (.slice (some ⟨309007, 0, none⟩) 3 FULL), (.bool false), (.slice none 0 0), (.slice none 0 0)] 125 1
/-- (*railplan/railplanref39.Traffic).second -/
def axk151 : Cut where
  f := 47
  n := 320098
  args := [(.pointer (some ⟨194069, 0, none⟩))]
  pre := [(194069, axb131), (39225, axb4), (39484, axb5), (40179, axb12), (40181, axb23), (40170, axb14), (40185, axb24), (40183, axb16), (234471, axb31), (234460, axb26), (162974, axb30), (162788, .cells [(.int .i64 0), (.int .i64 0)] 247 2), (162955, .cells [(.int .i64 0), (.int .i64 1)] 247 2), (234497, axb83), (300647, .cells [(.int .i64 (-16))] 3 1), (300659, .cells [(.int .i64 0)] 3 1), (300672, .cells [(.int .i64 45)] 3 1), (319758, axb84), (320032, axb104), (309007, axb105)]
  v := (.bool true)
  post := [(194069, axb132), (39225, axb4), (39484, axb5), (40179, axb12), (40181, axb23), (40170, axb14), (40185, axb24), (40183, axb16), (234471, axb31), (234460, axb26), (162974, axb30), (162788, .cells [(.int .i64 0), (.int .i64 0)] 247 2), (162955, .cells [(.int .i64 0), (.int .i64 1)] 247 2), (234497, axb83), (300647, .cells [(.int .i64 (-16))] 3 1), (300659, .cells [(.int .i64 0)] 3 1), (300672, .cells [(.int .i64 45)] 3 1), (320181, axb84), (320455, axb104), (309007, axb105)]
  n2 := 320487
  frame := [40189, 5289, 5548, 6243, 6245, 6234, 6249, 6247]
def axk151_h : Hook := (fun _ _ _ _ => none)
def axb133 : EBlk := .cells [(.slice none 0 0), (.slice none 0 0), (.slice (some ⟨39225, 0, none⟩) 2 FULL), (.slice (some ⟨39484, 0, none⟩) 1 FULL), (.slice (some ⟨40179, 0, none⟩) 1 1), (.slice (some ⟨40181, 0, none⟩) 1 1), (.slice (some ⟨40185, 0, none⟩) 1 1), (.slice none 0 0), (.slice (some ⟨234471, 0, none⟩) 1 FULL), (.slice (some ⟨162974, 0, none⟩) 2 FULL), (.slice (some ⟨162974, 0, none⟩) 2 FULL), (.slice (some ⟨234497, 0, none⟩) 1 FULL), (.slice (some ⟨320604, 0, none⟩) 2 FULL), (.slice (some ⟨320878, 0, none⟩) 1 FULL), (.int .i64 129), (.slice (some ⟨309007, 0, none⟩) 3 FULL), (.bool false), (.slice none 0 0), (.slice none 0 0)] 125 1
/-- (*railplan/railplanref39.Traffic).second -/
def axk152 : Cut where
  f := 47
  n := 320521
  args := [(.pointer (some ⟨194069, 0, none⟩))]
  pre := [(194069, axb132), (39225, axb4), (39484, axb5), (40179, axb12), (40181, axb23), (40170, axb14), (40185, axb24), (40183, axb16), (234471, axb31), (234460, axb26), (162974, axb30), (162788, .cells [(.int .i64 0), (.int .i64 0)] 247 2), (162955, .cells [(.int .i64 0), (.int .i64 1)] 247 2), (234497, axb83), (300647, .cells [(.int .i64 (-16))] 3 1), (300659, .cells [(.int .i64 0)] 3 1), (300672, .cells [(.int .i64 45)] 3 1), (320181, axb84), (320455, axb104), (309007, axb105)]
  v := (.bool true)
  post := [(194069, axb133), (39225, axb4), (39484, axb5), (40179, axb12), (40181, axb23), (40170, axb14), (40185, axb24), (40183, axb16), (234471, axb31), (234460, axb26), (162974, axb30), (162788, .cells [(.int .i64 0), (.int .i64 0)] 247 2), (162955, .cells [(.int .i64 0), (.int .i64 1)] 247 2), (234497, axb83), (300647, .cells [(.int .i64 (-16))] 3 1), (300659, .cells [(.int .i64 0)] 3 1), (300672, .cells [(.int .i64 45)] 3 1), (320604, axb84), (320878, axb104), (309007, axb105)]
  n2 := 320910
  frame := [40189, 5289, 5548, 6243, 6245, 6234, 6249, 6247]
def axk152_h : Hook := (fun _ _ _ _ => none)
def axb134 : EBlk := .cells [(.slice none 0 0), (.slice none 0 0), (.slice (some ⟨39225, 0, none⟩) 2 FULL), (.slice (some ⟨39484, 0, none⟩) 1 FULL), (.slice (some ⟨40179, 0, none⟩) 1 1), (.slice (some ⟨40181, 0, none⟩) 1 1), (.slice (some ⟨40185, 0, none⟩) 1 1), (.slice none 0 0), (.slice (some ⟨234471, 0, none⟩) 1 FULL), (.slice (some ⟨162974, 0, none⟩) 2 FULL), (.slice (some ⟨162974, 0, none⟩) 2 FULL), (.slice (some ⟨234497, 0, none⟩) 1 FULL), (.slice (some ⟨321027, 0, none⟩) 2 FULL), (.slice (some ⟨321301, 0, none⟩) 1 FULL), (.int .i64 130), (.slice (some ⟨309007, 0, none⟩) 3 FULL), (.bool false), (.slice none 0 0), (.slice none 0 0)] 125 1
/-- (*railplan/railplanref39.Traffic).second -/
def axk153 : Cut where
  f := 47
  n := 320944
  args := [(.pointer (some ⟨194069, 0, none⟩))]
  pre := [(194069, axb133), (39225, axb4), (39484, axb5), (40179, axb12), (40181, axb23), (40170, axb14), (40185, axb24), (40183, axb16), (234471, axb31), (234460, axb26), (162974, axb30), (162788, .cells [(.int .i64 0), (.int .i64 0)] 247 2), (162955, .cells [(.int .i64 0), (.int .i64 1)] 247 2), (234497, axb83), (300647, .cells [(.int .i64 (-16))] 3 1), (300659, .cells [(.int .i64 0)] 3 1), (300672, .cells [(.int .i64 45)] 3 1), (320604, axb84), (320878, axb104), (309007, axb105)]
  v := (.bool true)
  post := [(194069, axb134), (39225, axb4), (39484, axb5), (40179, axb12), (40181, axb23), (40170, axb14), (40185, axb24), (40183, axb16), (234471, axb31), (234460, axb26), (162974, axb30), (162788, .cells [(.int .i64 0), (.int .i64 0)] 247 2), (162955, .cells [(.int .i64 0), (.int .i64 1)] 247 2), (234497, axb83), (300647, .cells [(.int .i64 (-16))] 3 1), (300659, .cells [(.int .i64 0)] 3 1), (300672, .cells [(.int .i64 45)] 3 1), (321027, axb84), (321301, axb104), (309007, axb105)]
  n2 := 321333
  frame := [40189, 5289, 5548, 6243, 6245, 6234, 6249, 6247]
def axk153_h : Hook := (fun _ _ _ _ => none)
def axb135 : EBlk := .cells [(.slice none 0 0), (.slice none 0 0), (.slice (some ⟨39225, 0, none⟩) 2 FULL), (.slice (some ⟨39484, 0, none⟩) 1 FULL), (.slice (some ⟨40179, 0, none⟩) 1 1), (.slice (some ⟨40181, 0, none⟩) 1 1), (.slice (some ⟨40185, 0, none⟩) 1 1), (.slice none 0 0), (.slice (some ⟨234471, 0, none⟩) 1 FULL), (.slice (some ⟨162974, 0, none⟩) 2 FULL), (.slice (some ⟨162974, 0, none⟩) 2 FULL), (.slice (some ⟨234497, 0, none⟩) 1 FULL), (.slice (some ⟨321450, 0, none⟩) 2 FULL), (.slice (some ⟨321724, 0, none⟩) 1 FULL), (.int .i64 131), (.slice (some ⟨309007, 0, none⟩) 3 FULL), (.bool false), (.slice none 0 0), (.slice none 0 0)] 125 1
/-- (*railplan/railplanref39.Traffic).second -/
def axk154 : Cut where
  f := 47
  n := 321367
  args := [(.pointer (some ⟨194069, 0, none⟩))]
  pre := [(194069, axb134), (39225, axb4), (39484, axb5), (40179, axb12), (40181, axb23), (40170, axb14), (40185, axb24), (40183, axb16), (234471, axb31), (234460, axb26), (162974, axb30), (162788, .cells [(.int .i64 0), (.int .i64 0)] 247 2), (162955, .cells [(.int .i64 0), (.int .i64 1)] 247 2), (234497, axb83), (300647, .cells [(.int .i64 (-16))] 3 1), (300659, .cells [(.int .i64 0)] 3 1), (300672, .cells [(.int .i64 45)] 3 1), (321027, axb84), (321301, axb104), (309007, axb105)]
  v := (.bool true)
  post := [(194069, axb135), (39225, axb4), (39484, axb5), (40179, axb12), (40181, axb23), (40170, axb14), (40185, axb24), (40183, axb16), (234471, axb31), (234460, axb26), (162974, axb30), (162788, .cells [(.int .i64 0), (.int .i64 0)] 247 2), (162955, .cells [(.int .i64 0), (.int .i64 1)] 247 2), (234497, axb83), (300647, .cells [(.int .i64 (-16))] 3 1), (300659, .cells [(.int .i64 0)] 3 1), (300672, .cells [(.int .i64 45)] 3 1), (321450, axb84), (321724, axb104), (309007, axb105)]
  n2 := 321756
  frame := [40189, 5289, 5548, 6243, 6245, 6234, 6249, 6247]
def axk154_h : Hook := (fun _ _ _ _ => none)
def axb136 : EBlk := .cells [(.slice none 0 0), (.slice none 0 0), (.slice (some ⟨39225, 0, none⟩) 2 FULL), (.slice (some ⟨39484, 0, none⟩) 1 FULL), (.slice (some ⟨40179, 0, none⟩) 1 1), (.slice (some ⟨40181, 0, none⟩) 1 1), (.slice (some ⟨40185, 0, none⟩) 1 1), (.slice none 0 0), (.slice (some ⟨234471, 0, none⟩) 1 FULL), (.slice (some ⟨162974, 0, none⟩) 2 FULL), (.slice (some ⟨162974, 0, none⟩) 2 FULL), (.slice (some ⟨234497, 0, none⟩) 1 FULL), (.slice (some ⟨321873, 0, none⟩) 2 FULL), (.slice (some ⟨322147, 0, none⟩) 1 FULL), (.int .i64 132), (.slice (some ⟨309007, 0, none⟩) 3 FULL), (.bool false), (.slice none 0 0), (.slice none 0 0)] 125 1
/-- (*railplan/railplanref39.Traffic).second -/
def axk155 : Cut where
  f := 47
  n := 321790
  args := [(.pointer (some ⟨194069, 0, none⟩))]
  pre := [(194069, axb135), (39225, axb4), (39484, axb5), (40179, axb12), (40181, axb23), (40170, axb14), (40185, axb24), (40183, axb16), (234471, axb31), (234460, axb26), (162974, axb30), (162788, .cells [(.int .i64 0), (.int .i64 0)] 247 2), (162955, .cells [(.int .i64 0), (.int .i64 1)] 247 2), (234497, axb83), (300647, .cells [(.int .i64 (-16))] 3 1), (300659, .cells [(.int .i64 0)] 3 1), (300672, .cells [(.int .i64 45)] 3 1), (321450, axb84), (321724, axb104), (309007, axb105)]
  v := (.bool true)
  post := [(194069, axb136), (39225, axb4), (39484, axb5), (40179, axb12), (40181, axb23), (40170, axb14), (40185, axb24), (40183, axb16), (234471, axb31), (234460, axb26), (162974, axb30), (162788, .cells [(.int .i64 0), (.int .i64 0)] 247 2), (162955, .cells [(.int .i64 0), (.int .i64 1)] 247 2), (234497, axb83), (300647, .cells [(.int .i64 (-16))] 3 1), (300659, .cells [(.int .i64 0)] 3 1), (300672, .cells [(.int .i64 45)] 3 1), (321873, axb84), (322147, axb104), (309007, axb105)]
  n2 := 322179
  frame := [40189, 5289, 5548, 6243, 6245, 6234, 6249, 6247]
def axk155_h : Hook := (fun _ _ _ _ => none)
def axb137 : EBlk := .cells [(.slice none 0 0), (.slice none 0 0), (.slice (some ⟨39225, 0, none⟩) 2 FULL), (.slice (some ⟨39484, 0, none⟩) 1 FULL), (.slice (some ⟨40179, 0, none⟩) 1 1), (.slice (some ⟨40181, 0, none⟩) 1 1), (.slice (some ⟨40185, 0, none⟩) 1 1), (.slice none 0 0), (.slice (some ⟨234471, 0, none⟩) 1 FULL), (.slice (some ⟨162974, 0, none⟩) 2 FULL), (.slice (some ⟨162974, 0, none⟩) 2 FULL), (.slice (some ⟨234497, 0, none⟩) 1 FULL), (.slice (some ⟨322296, 0, none⟩) 2 FULL), (.slice (some ⟨322570, 0, none⟩) 1 FULL), (.int .i64 133), (.slice (some ⟨309007, 0, none⟩) 3 FULL), (.bool false), (.slice none 0 0), (.slice none 0 0)] 125 1
/-- (*railplan/railplanref39.Traffic).second -/
def axk156 : Cut where
  f := 47
  n := 322213
  args := [(.pointer (some ⟨194069, 0, none⟩))]
  pre := [(194069, axb136), (39225, axb4), (39484, axb5), (40179, axb12), (40181, axb23), (40170, axb14), (40185, axb24), (40183, axb16), (234471, axb31), (234460, axb26), (162974, axb30), (162788, .cells [(.int .i64 0), (.int .i64 0)] 247 2), (162955, .cells [(.int .i64 0), (.int .i64 1)] 247 2), (234497, axb83), (300647, .cells [(.int .i64 (-16))] 3 1), (300659, .cells [(.int .i64 0)] 3 1), (300672, .cells [(.int .i64 45)] 3 1), (321873, axb84), (322147, axb104), (309007, axb105)]
  v := (.bool true)
  post := [(194069, axb137), (39225, axb4), (39484, axb5), (40179, axb12), (40181, axb23), (40170, axb14), (40185, axb24), (40183, axb16), (234471, axb31), (234460, axb26), (162974, axb30), (162788, .cells [(.int .i64 0), (.int .i64 0)] 247 2), (162955, .cells [(.int .i64 0), (.int .i64 1)] 247 2), (234497, axb83), (300647, .cells [(.int .i64 (-16))] 3 1), (300659, .cells [(.int .i64 0)] 3 1), (300672, .cells [(.int .i64 45)] 3 1), (322296, axb84), (322570, axb104), (309007, axb105)]
  n2 := 322602
  frame := [40189, 5289, 5548, 6243, 6245, 6234, 6249, 6247]
def axk156_h : Hook := (fun _ _ _ _ => none)
def axb138 : EBlk := .cells [(.slice none 0 0), (.slice none 0 0), (.slice (some ⟨39225, 0, none⟩) 2 FULL), (.slice (some ⟨39484, 0, none⟩) 1 FULL), (.slice (some ⟨40179, 0, none⟩) 1 1), (.slice (some ⟨40181, 0, none⟩) 1 1), (.slice (some ⟨40185, 0, none⟩) 1 1), (.slice none 0 0), (.slice (some ⟨234471, 0, none⟩) 1 FULL), (.slice (some ⟨162974, 0, none⟩) 2 FULL), (.slice (some ⟨162974, 0, none⟩) 2 FULL), (.slice (some ⟨234497, 0, none⟩) 1 FULL), (.slice (some ⟨322719, 0, none⟩) 2 FULL), (.slice (some ⟨322993, 0, none⟩) 1 FULL), (.int .i64 134), (.slice (some ⟨309007, 0, none⟩) 3 FULL), (.bool false), (.slice none 0 0), (.slice none 0 0)] 125 1
/-- (*railplan/railplanref39.Traffic).second -/
def axk157 : Cut where
  f := 47
  n := 322636
  args := [(.pointer (some ⟨194069, 0, none⟩))]
  pre := [(194069, axb137), (39225, axb4), (39484, axb5), (40179, axb12), (40181, axb23), (40170, axb14), (40185, axb24), (40183, axb16), (234471, axb31), (234460, axb26), (162974, axb30), (162788, .cells [(.int .i64 0), (.int .i64 0)] 247 2), (162955, .cells [(.int .i64 0), (.int .i64 1)] 247 2), (234497, axb83), (300647, .cells [(.int .i64 (-16))] 3 1), (300659, .cells [(.int .i64 0)] 3 1), (300672, .cells [(.int .i64 45)] 3 1), (322296, axb84), (322570, axb104), (309007, axb105)]
  v := (.bool true)
  post := [(194069, axb138), (39225, axb4), (39484, axb5), (40179, axb12), (40181, axb23), (40170, axb14), (40185, axb24), (40183, axb16), (234471, axb31), (234460, axb26), (162974, axb30), (162788, .cells [(.int .i64 0), (.int .i64 0)] 247 2), (162955, .cells [(.int .i64 0), (.int .i64 1)] 247 2), (234497, axb83), (300647, .cells [(.int .i64 (-16))] 3 1), (300659, .cells [(.int .i64 0)] 3 1), (300672, .cells [(.int .i64 45)] 3 1), (322719, axb84), (322993, axb104), (309007, axb105)]
  n2 := 323025
  frame := [40189, 5289, 5548, 6243, 6245, 6234, 6249, 6247]
def axk157_h : Hook := (fun _ _ _ _ => none)
def axb139 : EBlk := .cells [(.slice none 0 0), (.slice none 0 0), (.slice (some ⟨39225, 0, none⟩) 2 FULL), (.slice (some ⟨39484, 0, none⟩) 1 FULL), (.slice (some ⟨40179, 0, none⟩) 1 1), (.slice (some ⟨40181, 0, none⟩) 1 1), (.slice (some ⟨40185, 0, none⟩) 1 1), (.slice none 0 0), (.slice (some ⟨234471, 0, none⟩) 1 FULL), (.slice (some ⟨162974, 0, none⟩) 2 FULL), (.slice (some ⟨162974, 0, none⟩) 2 FULL), (.slice (some ⟨234497, 0, none⟩) 1 FULL), (.slice (some ⟨323142, 0, none⟩) 2 FULL), (.slice (some ⟨323416, 0, none⟩) 1 FULL), (.int .i64 135), (.slice (some ⟨309007, 0, none⟩) 3 FULL), (.bool false), (.slice none 0 0), (.slice none 0 0)] 125 1
/-- (*railplan/railplanref39.Traffic).second -/
def axk158 : Cut where
  f := 47
  n := 323059
  args := [(.pointer (some ⟨194069, 0, none⟩))]
  pre := [(194069, axb138), (39225, axb4), (39484, axb5), (40179, axb12), (40181, axb23), (40170, axb14), (40185, axb24), (40183, axb16), (234471, axb31), (234460, axb26), (162974, axb30), (162788, .cells [(.int .i64 0), (.int .i64 0)] 247 2), (162955, .cells [(.int .i64 0), (.int .i64 1)] 247 2), (234497, axb83), (300647, .cells [(.int .i64 (-16))] 3 1), (300659, .cells [(.int .i64 0)] 3 1), (300672, .cells [(.int .i64 45)] 3 1), (322719, axb84), (322993, axb104), (309007, axb105)]
  v := (.bool true)
  post := [(194069, axb139), (39225, axb4), (39484, axb5), (40179, axb12), (40181, axb23), (40170, axb14), (40185, axb24), (40183, axb16), (234471, axb31), (234460, axb26), (162974, axb30), (162788, .cells [(.int .i64 0), (.int .i64 0)] 247 2), (162955, .cells [(.int .i64 0), (.int .i64 1)] 247 2), (234497, axb83), (300647, .cells [(.int .i64 (-16))] 3 1), (300659, .cells [(.int .i64 0)] 3 1), (300672, .cells [(.int .i64 45)] 3 1), (323142, axb84), (323416, axb104), (309007, axb105)]
  n2 := 323448
  frame := [40189, 5289, 5548, 6243, 6245, 6234, 6249, 6247]
def axk158_h : Hook := (fun _ _ _ _ => none)
def axb140 : EBlk := .cells [(.slice none 0 0), (.slice none 0 0), (.slice (some ⟨39225, 0, none⟩) 2 FULL), (.slice (some ⟨39484, 0, none⟩) 1 FULL), (.slice (some ⟨40179, 0, none⟩) 1 1), (.slice (some ⟨40181, 0, none⟩) 1 1), (.slice (some ⟨40185, 0, none⟩) 1 1), (.slice none 0 0), (.slice (some ⟨234471, 0, none⟩) 1 FULL), (.slice (some ⟨162974, 0, none⟩) 2 FULL), (.slice (some ⟨162974, 0, none⟩) 2 FULL), (.slice (some ⟨234497, 0, none⟩) 1 FULL), (.slice (some ⟨323565, 0, none⟩) 2 FULL), (.slice (some ⟨323839, 0, none⟩) 1 FULL), (.int .i64 136), (.slice (some ⟨309007, 0, none⟩) 3 FULL), (.bool false), (.slice none 0 0), (.slice none 0 0)] 125 1
/-- (*railplan/railplanref39.Traffic).second -/
def axk159 : Cut where
  f := 47
  n := 323482
  args := [(.pointer (some ⟨194069, 0, none⟩))]
  pre := [(194069, axb139), (39225, axb4), (39484, axb5), (40179, axb12), (40181, axb23), (40170, axb14), (40185, axb24), (40183, axb16), (234471, axb31), (234460, axb26), (162974, axb30), (162788, .cells [(.int .i64 0), (.int .i64 0)] 247 2), (162955, .cells [(.int .i64 0), (.int .i64 1)] 247 2), (234497, axb83), (300647, .cells [(.int .i64 (-16))] 3 1), (300659, .cells [(.int .i64 0)] 3 1), (300672, .cells [(.int .i64 45)] 3 1), (323142, axb84), (323416, axb104), (309007, axb105)]
  v := (.bool true)
  post := [(194069, axb140), (39225, axb4), (39484, axb5), (40179, axb12), (40181, axb23), (40170, axb14), (40185, axb24), (40183, axb16), (234471, axb31), (234460, axb26), (162974, axb30), (162788, .cells [(.int .i64 0), (.int .i64 0)] 247 2), (162955, .cells [(.int .i64 0), (.int .i64 1)] 247 2), (234497, axb83), (300647, .cells [(.int .i64 (-16))] 3 1), (300659, .cells [(.int .i64 0)] 3 1), (300672, .cells [(.int .i64 45)] 3 1), (323565, axb84), (323839, axb104), (309007, axb105)]
  n2 := 323871
  frame := [40189, 5289, 5548, 6243, 6245, 6234, 6249, 6247]
def axk159_h : Hook := (fun _ _ _ _ => none)
def axb141 : EBlk := .cells [(.slice none 0 0), (.slice none 0 0), (.slice (some ⟨39225, 0, none⟩) 2 FULL), (.slice (some ⟨39484, 0, none⟩) 1 FULL), (.slice (some ⟨40179, 0, none⟩) 1 1), (.slice (some ⟨40181, 0, none⟩) 1 1), (.slice (some ⟨40185, 0, none⟩) 1 1), (.slice none 0 0), (.slice (some ⟨234471, 0, none⟩) 1 FULL), (.slice (some ⟨162974, 0, none⟩) 2 FULL), (.slice (some ⟨162974, 0, none⟩) 2 FULL), (.slice (some ⟨234497, 0, none⟩) 1 FULL), (.slice (some ⟨323988, 0, none⟩) 2 FULL), (.slice (some ⟨324262, 0, none⟩) 1 FULL), (.int .i64 137), (.slice (some ⟨309007, 0, none⟩) 3 FULL), (.bool false), (.slice none 0 0), (.slice none 0 0)] 125 1
/-- (*railplan/railplanref39.Traffic).second -/
def axk160 : Cut where
  f := 47
  n := 323905
  args := [(.pointer (some ⟨194069, 0, none⟩))]
  pre := [(194069, axb140), (39225, axb4), (39484, axb5), (40179, axb12), (40181, axb23), (40170, axb14), (40185, axb24), (40183, axb16), (234471, axb31), (234460, axb26), (162974, axb30), (162788, .cells [(.int .i64 0), (.int .i64 0)] 247 2), (162955, .cells [(.int .i64 0), (.int .i64 1)] 247 2), (234497, axb83), (300647, .cells [(.int .i64 (-16))] 3 1), (300659, .cells [(.int .i64 0)] 3 1), (300672, .cells [(.int .i64 45)] 3 1), (323565, axb84), (323839, axb104), (309007, axb105)]
  v := (.bool true)
  post := [(194069, axb141), (39225, axb4), (39484, axb5), (40179, axb12), (40181, axb23), (40170, axb14), (40185, axb24), (40183, axb16), (234471, axb31), (234460, axb26), (162974, axb30), (162788, .cells [(.int .i64 0), (.int .i64 0)] 247 2), (162955, .cells [(.int .i64 0), (.int .i64 1)] 247 2), (234497, axb83), (300647, .cells [(.int .i64 (-16))] 3 1), (300659, .cells [(.int .i64 0)] 3 1), (300672, .cells [(.int .i64 45)] 3 1), (323988, axb84), (324262, axb104), (309007, axb105)]
  n2 := 324294
  frame := [40189, 5289, 5548, 6243, 6245, 6234, 6249, 6247]
def axk160_h : Hook := (fun _ _ _ _ => none)
def axb142 : EBlk := .cells [(.slice none 0 0), (.slice none 0 0), (.slice (some ⟨39225, 0, none⟩) 2 FULL), (.slice (some ⟨39484, 0, none⟩) 1 FULL), (.slice (some ⟨40179, 0, none⟩) 1 1), (.slice (some ⟨40181, 0, none⟩) 1 1), (.slice (some ⟨40185, 0, none⟩) 1 1), (.slice none 0 0), (.slice (some ⟨234471, 0, none⟩) 1 FULL), (.slice (some ⟨162974, 0, none⟩) 2 FULL), (.slice (some ⟨162974, 0, none⟩) 2 FULL), (.slice (some ⟨234497, 0, none⟩) 1 FULL), (.slice (some ⟨324411, 0, none⟩) 2 FULL), (.slice (some ⟨324685, 0, none⟩) 1 FULL), (.int .i64 138), (.slice (some ⟨309007, 0, none⟩) 3 FULL), (.bool false), (.slice none 0 0), (.slice none 0 0)] 125 1
/-- (*railplan/railplanref39.Traffic).second -/
def axk161 : Cut where
  f := 47
  n := 324328
  args := [(.pointer (some ⟨194069, 0, none⟩))]
  pre := [(194069, axb141), (39225, axb4), (39484, axb5), (40179, axb12), (40181, axb23), (40170, axb14), (40185, axb24), (40183, axb16), (234471, axb31), (234460, axb26), (162974, axb30), (162788, .cells [(.int .i64 0), (.int .i64 0)] 247 2), (162955, .cells [(.int .i64 0), (.int .i64 1)] 247 2), (234497, axb83), (300647, .cells [(.int .i64 (-16))] 3 1), (300659, .cells [(.int .i64 0)] 3 1), (300672, .cells [(.int .i64 45)] 3 1), (323988, axb84), (324262, axb104), (309007, axb105)]
  v := (.bool true)
  post := [(194069, axb142), (39225, axb4), (39484, axb5), (40179, axb12), (40181, axb23), (40170, axb14), (40185, axb24), (40183, axb16), (234471, axb31), (234460, axb26), (162974, axb30), (162788, .cells [(.int .i64 0), (.int .i64 0)] 247 2), (162955, .cells [(.int .i64 0), (.int .i64 1)] 247 2), (234497, axb83), (300647, .cells [(.int .i64 (-16))] 3 1), (300659, .cells [(.int .i64 0)] 3 1), (300672, .cells [(.int .i64 45)] 3 1), (324411, axb84), (324685, axb104), (309007, axb105)]
  n2 := 324717
  frame := [40189, 5289, 5548, 6243, 6245, 6234, 6249, 6247]
def axk161_h : Hook := (fun _ _ _ _ => none)
def axb143 : EBlk := .cells [(.slice none 0 0), (.slice none 0 0), (.slice (some ⟨39225, 0, none⟩) 2 FULL), (.slice (some ⟨39484, 0, none⟩) 1 FULL), (.slice (some ⟨40179, 0, none⟩) 1 1), (.slice (some ⟨40181, 0, none⟩) 1 1), (.slice (some ⟨40185, 0, none⟩) 1 1), (.slice none 0 0), (.slice (some ⟨234471, 0, none⟩) 1 FULL), (.slice (some ⟨162974, 0, none⟩) 2 FULL), (.slice (some ⟨162974, 0, none⟩) 2 FULL), (.slice (some ⟨234497, 0, none⟩) 1 FULL), (.slice (some ⟨324834, 0, none⟩) 2 FULL), (.slice (some ⟨325108, 0, none⟩) 1 FULL), (.int .i64 139), (.slice (some ⟨309007, 0, none⟩) 3 FULL), (.bool false), (.slice none 0 0), (.slice none 0 0)] 125 1
/-- (*railplan/railplanref39.Traffic).second -/
def axk162 : Cut where
  f := 47
  n := 324751
  args := [(.pointer (some ⟨194069, 0, none⟩))]
  pre := [(194069, axb142), (39225, axb4), (39484, axb5), (40179, axb12), (40181, axb23), (40170, axb14), (40185, axb24), (40183, axb16), (234471, axb31), (234460, axb26), (162974, axb30), (162788, .cells [(.int .i64 0), (.int .i64 0)] 247 2), (162955, .cells [(.int .i64 0), (.int .i64 1)] 247 2), (234497, axb83), (300647, .cells [(.int .i64 (-16))] 3 1), (300659, .cells [(.int .i64 0)] 3 1), (300672, .cells [(.int .i64 45)] 3 1), (324411, axb84), (324685, axb104), (309007, axb105)]
  v := (.bool true)
  post := [(194069, axb143), (39225, axb4), (39484, axb5), (40179, axb12), (40181, axb23), (40170, axb14), (40185, axb24), (40183, axb16), (234471, axb31), (234460, axb26), (162974, axb30), (162788, .cells [(.int .i64 0), (.int .i64 0)] 247 2), (162955, .cells [(.int .i64 0), (.int .i64 1)] 247 2), (234497, axb83), (300647, .cells [(.int .i64 (-16))] 3 1), (300659, .cells [(.int .i64 0)] 3 1), (300672, .cells [(.int .i64 45)] 3 1), (324834, axb84), (325108, axb104), (309007, axb105)]
  n2 := 325140
  frame := [40189, 5289, 5548, 6243, 6245, 6234, 6249, 6247]
def axk162_h : Hook := (fun _ _ _ _ => none)
def axb144 : EBlk := .cells [(.slice none 0 0), (.slice none 0 0), (.slice (some ⟨39225, 0, none⟩) 2 FULL), (.slice (some ⟨39484, 0, none⟩) 1 FULL), (.slice (some ⟨40179, 0, none⟩) 1 1), (.slice (some ⟨40181, 0, none⟩) 1 1), (.slice (some ⟨40185, 0, none⟩) 1 1), (.slice none 0 0), (.slice (some ⟨234471, 0, none⟩) 1 FULL), (.slice (some ⟨162974, 0, none⟩) 2 FULL), (.slice (some ⟨162974, 0, none⟩) 2 FULL), (.slice (some ⟨234497, 0, none⟩) 1 FULL), (.slice (some ⟨325257, 0, none⟩) 2 FULL), (.slice (some ⟨325531, 0, none⟩) 1 FULL), (.int .i64 140), (.slice (some ⟨309007, 0, none⟩) 3 FULL), (.bool false), (.slice none 0 0), (.slice none 0 0)] 125 1
/-- (*railplan/railplanref39.Traffic).second -/
def axk163 : Cut where
  f := 47
  n := 325174
  args := [(.pointer (some ⟨194069, 0, none⟩))]
  pre := [(194069, axb143), (39225, axb4), (39484, axb5), (40179, axb12), (40181, axb23), (40170, axb14), (40185, axb24), (40183, axb16), (234471, axb31), (234460, axb26), (162974, axb30), (162788, .cells [(.int .i64 0), (.int .i64 0)] 247 2), (162955, .cells [(.int .i64 0), (.int .i64 1)] 247 2), (234497, axb83), (300647, .cells [(.int .i64 (-16))] 3 1), (300659, .cells [(.int .i64 0)] 3 1), (300672, .cells [(.int .i64 45)] 3 1), (324834, axb84), (325108, axb104), (309007, axb105)]
  v := (.bool true)
  post := [(194069, axb144), (39225, axb4), (39484, axb5), (40179, axb12), (40181, axb23), (40170, axb14), (40185, axb24), (40183, axb16), (234471, axb31), (234460, axb26), (162974, axb30), (162788, .cells [(.int .i64 0), (.int .i64 0)] 247 2), (162955, .cells [(.int .i64 0), (.int .i64 1)] 247 2), (234497, axb83), (300647, .cells [(.int .i64 (-16))] 3 1), (300659, .cells [(.int .i64 0)] 3 1), (300672, .cells [(.int .i64 45)] 3 1), (325257, axb84), (325531, axb104), (309007, axb105)]
  n2 := 325563
  frame := [40189, 5289, 5548, 6243, 6245, 6234, 6249, 6247]
def axk163_h : Hook := (fun _ _ _ _ => none)
def axb145 : EBlk := .cells [(.slice none 0 0), (.slice none 0 0), (.slice (some ⟨39225, 0, none⟩) 2 FULL), (.slice (some ⟨39484, 0, none⟩) 1 FULL), (.slice (some ⟨40179, 0, none⟩) 1 1), (.slice (some ⟨40181, 0, none⟩) 1 1), (.slice (some ⟨40185, 0, none⟩) 1 1), (.slice none 0 0), (.slice (some ⟨234471, 0, none⟩) 1 FULL), (.slice (some ⟨162974, 0, none⟩) 2 FULL), (.slice (some ⟨162974, 0, none⟩) 2 FULL), (.slice (some ⟨234497, 0, none⟩) 1 FULL), (.slice (some ⟨325680, 0, none⟩) 2 FULL), (.slice (some ⟨325954, 0, none⟩) 1 FULL), (.int .i64 141), (.slice (some ⟨309007, 0, none⟩) 3 FULL), (.bool false), (.slice none 0 0), (.slice none 0 0)] 125 1
/-- (*railplan/railplanref39.Traffic).second -/
def axk164 : Cut where
  f := 47
  n := 325597
  args := [(.pointer (some ⟨194069, 0, none⟩))]
  pre := [(194069, axb144), (39225, axb4), (39484, axb5), (40179, axb12), (40181, axb23), (40170, axb14), (40185, axb24), (40183, axb16), (234471, axb31), (234460, axb26), (162974, axb30), (162788, .cells [(.int .i64 0), (.int .i64 0)] 247 2), (162955, .cells [(.int .i64 0), (.int .i64 1)] 247 2), (234497, axb83), (300647, .cells [(.int .i64 (-16))] 3 1), (300659, .cells [(.int .i64 0)] 3 1), (300672, .cells [(.int .i64 45)] 3 1), (325257, axb84), (325531, axb104), (309007, axb105)]
  v := (.bool true)
  post := [(194069, axb145), (39225, axb4), (39484, axb5), (40179, axb12), (40181, axb23), (40170, axb14), (40185, axb24), (40183, axb16), (234471, axb31), (234460, axb26), (162974, axb30), (162788, .cells [(.int .i64 0), (.int .i64 0)] 247 2), (162955, .cells [(.int .i64 0), (.int .i64 1)] 247 2), (234497, axb83), (300647, .cells [(.int .i64 (-16))] 3 1), (300659, .cells [(.int .i64 0)] 3 1), (300672, .cells [(.int .i64 45)] 3 1), (325680, axb84), (325954, axb104), (309007, axb105)]
  n2 := 325986
  frame := [40189, 5289, 5548, 6243, 6245, 6234, 6249, 6247]
def axk164_h : Hook := (fun _ _ _ _ => none)
def axb146 : EBlk := .cells [(.slice none 0 0), (.slice none 0 0), (.slice (some ⟨39225, 0, none⟩) 2 FULL), (.slice (some ⟨39484, 0, none⟩) 1 FULL), (.slice (some ⟨40179, 0, none⟩) 1 1), (.slice (some ⟨40181, 0, none⟩) 1 1), (.slice (some ⟨40185, 0, none⟩) 1 1), (.slice none 0 0), (.slice (some ⟨234471, 0, none⟩) 1 FULL), (.slice (some ⟨162974, 0, none⟩) 2 FULL), (.slice (some ⟨162974, 0, none⟩) 2 FULL), (.slice (some ⟨234497, 0, none⟩) 1 FULL), (.slice (some ⟨326103, 0, none⟩) 2 FULL), (.slice none 0 0), (.int .i64 142), (.slice (some ⟨326161, 0, none⟩) 4 FULL), (.bool false), (.slice none 0 0), (.slice none 0 0)] 125 1
def axb147 : EBlk := .cells [(.int .i64 40), (.int .i64 5), (.int .i64 0), (.int .i64 0), (.int .i64 0), (.int .i64 0), (.int .i64 84), (.int .i64 5), (.int .i64 0), (.int .i64 0), (.int .i64 1), (.int .i64 0), (.int .i64 100), (.int .i64 8), (.int .i64 0), (.int .i64 0), (.int .i64 0), (.int .i64 0), (.int .i64 141), (.int .i64 2), (.int .i64 0), (.int .i64 0), (.int .i64 1), (.int .i64 0)] 32 6
/-- (*railplan/railplanref39.Traffic).second -/
def axk165 : Cut where
  f := 47
  n := 326020
  args := [(.pointer (some ⟨194069, 0, none⟩))]
  pre := [(194069, axb145), (39225, axb4), (39484, axb5), (40179, axb12), (40181, axb23), (40170, axb14), (40185, axb24), (40183, axb16), (234471, axb31), (234460, axb26), (162974, axb30), (162788, .cells [(.int .i64 0), (.int .i64 0)] 247 2), (162955, .cells [(.int .i64 0), (.int .i64 1)] 247 2), (234497, axb83), (300647, .cells [(.int .i64 (-16))] 3 1), (300659, .cells [(.int .i64 0)] 3 1), (300672, .cells [(.int .i64 45)] 3 1), (325680, axb84), (325954, axb104), (309007, axb105)]
  v := (.bool true)
  post := [(194069, axb146), (39225, axb4), (39484, axb5), (40179, axb12), (40181, axb23), (40170, axb14), (40185, axb24), (40183, axb16), (234471, axb31), (234460, axb26), (162974, axb30), (162788, .cells [(.int .i64 0), (.int .i64 0)] 247 2), (162955, .cells [(.int .i64 0), (.int .i64 1)] 247 2), (234497, axb83), (300647, .cells [(.int .i64 (-16))] 3 1), (300659, .cells [(.int .i64 0)] 3 1), (300672, .cells [(.int .i64 45)] 3 1), (326103, axb84), (326161, axb147)]
  n2 := 326400
  frame := [40189, 5289, 5548, 6243, 6245, 6234, 6249, 6247]
def axk165_h : Hook := (fun _ _ _ _ => none)
def axb148 : EBlk := .cells [(.slice none 0 0), (.slice none 0 0), (.slice (some ⟨39225, 0, none⟩) 2 FULL), (.slice (some ⟨39484, 0, none⟩) 1 FULL), (.slice (some ⟨40179, 0, none⟩) 1 1), (.slice (some ⟨40181, 0, none⟩) 1 1), (.slice (some ⟨40185, 0, none⟩) 1 1), (.slice none 0 0), (.slice (some ⟨234471, 0, none⟩) 1 FULL), (.slice (some ⟨162974, 0, none⟩) 2 FULL), (.slice (some ⟨162974, 0, none⟩) 2 FULL), (.slice (some ⟨234497, 0, none⟩) 1 FULL), (.slice (some ⟨326517, 0, none⟩) 2 FULL), (.slice none 0 0), (.int .i64 143), (.slice (some ⟨326161, 0, none⟩) 4 FULL), (.bool false), (.slice none 0 0), (.slice none 0 0)] 125 1
/-- (*railplan/railplanref39.Traffic).second -/
def axk166 : Cut where
  f := 47
  n := 326434
  args := [(.pointer (some ⟨194069, 0, none⟩))]
  pre := [(194069, axb146), (39225, axb4), (39484, axb5), (40179, axb12), (40181, axb23), (40170, axb14), (40185, axb24), (40183, axb16), (234471, axb31), (234460, axb26), (162974, axb30), (162788, .cells [(.int .i64 0), (.int .i64 0)] 247 2), (162955, .cells [(.int .i64 0), (.int .i64 1)] 247 2), (234497, axb83), (300647, .cells [(.int .i64 (-16))] 3 1), (300659, .cells [(.int .i64 0)] 3 1), (300672, .cells [(.int .i64 45)] 3 1), (326103, axb84), (326161, axb147)]
  v := (.bool true)
  post := [(194069, axb148), (39225, axb4), (39484, axb5), (40179, axb12), (40181, axb23), (40170, axb14), (40185, axb24), (40183, axb16), (234471, axb31), (234460, axb26), (162974, axb30), (162788, .cells [(.int .i64 0), (.int .i64 0)] 247 2), (162955, .cells [(.int .i64 0), (.int .i64 1)] 247 2), (234497, axb83), (300647, .cells [(.int .i64 (-16))] 3 1), (300659, .cells [(.int .i64 0)] 3 1), (300672, .cells [(.int .i64 45)] 3 1), (326517, axb84), (326161, axb147)]
  n2 := 326773
  frame := [40189, 5289, 5548, 6243, 6245, 6234, 6249, 6247]
def axk166_h : Hook := (fun _ _ _ _ => none)
def axb149 : EBlk := .cells [(.slice none 0 0), (.slice none 0 0), (.slice (some ⟨39225, 0, none⟩) 2 FULL), (.slice (some ⟨39484, 0, none⟩) 1 FULL), (.slice (some ⟨40179, 0, none⟩) 1 1), (.slice (some ⟨40181, 0, none⟩) 1 1), (.slice (some ⟨40185, 0, none⟩) 1 1), (.slice none 0 0), (.slice (some ⟨234471, 0, none⟩) 1 FULL), (.slice (some ⟨162974, 0, none⟩) 2 FULL), (.slice (some ⟨162974, 0, none⟩) 2 FULL), (.slice (some ⟨234497, 0, none⟩) 1 FULL), (.slice (some ⟨326890, 0, none⟩) 2 FULL), (.slice none 0 0), (.int .i64 144), (.slice (some ⟨326161, 0, none⟩) 4 FULL), (.bool false), (.slice none 0 0), (.slice none 0 0)] 125 1
/-- (*railplan/railplanref39.Traffic).second -/
def axk167 : Cut where
  f := 47
  n := 326807
  args := [(.pointer (some ⟨194069, 0, none⟩))]
  pre := [(194069, axb148), (39225, axb4), (39484, axb5), (40179, axb12), (40181, axb23), (40170, axb14), (40185, axb24), (40183, axb16), (234471, axb31), (234460, axb26), (162974, axb30), (162788, .cells [(.int .i64 0), (.int .i64 0)] 247 2), (162955, .cells [(.int .i64 0), (.int .i64 1)] 247 2), (234497, axb83), (300647, .cells [(.int .i64 (-16))] 3 1), (300659, .cells [(.int .i64 0)] 3 1), (300672, .cells [(.int .i64 45)] 3 1), (326517, axb84), (326161, axb147)]
  v := (.bool true)
  post := [(194069, axb149), (39225, axb4), (39484, axb5), (40179, axb12), (40181, axb23), (40170, axb14), (40185, axb24), (40183, axb16), (234471, axb31), (234460, axb26), (162974, axb30), (162788, .cells [(.int .i64 0), (.int .i64 0)] 247 2), (162955, .cells [(.int .i64 0), (.int .i64 1)] 247 2), (234497, axb83), (300647, .cells [(.int .i64 (-16))] 3 1), (300659, .cells [(.int .i64 0)] 3 1), (300672, .cells [(.int .i64 45)] 3 1), (326890, axb84), (326161, axb147)]
  n2 := 327146
  frame := [40189, 5289, 5548, 6243, 6245, 6234, 6249, 6247]
def axk167_h : Hook := (fun _ _ _ _ => none)
def axb150 : EBlk := .cells [(.slice none 0 0), (.slice none 0 0), (.slice (some ⟨39225, 0, none⟩) 2 FULL), (.slice (some ⟨39484, 0, none⟩) 1 FULL), (.slice (some ⟨40179, 0, none⟩) 1 1), (.slice (some ⟨40181, 0, none⟩) 1 1), (.slice (some ⟨40185, 0, none⟩) 1 1), (.slice none 0 0), (.slice (some ⟨234471, 0, none⟩) 1 FULL), (.slice (some ⟨162974, 0, none⟩) 2 FULL), (.slice (some ⟨162974, 0, none⟩) 2 FULL), (.slice (some ⟨234497, 0, none⟩) 1 FULL), (.slice (some ⟨327263, 0, none⟩) 2 FULL), (.slice none 0 0), (.int .i64 145), (.slice (some ⟨326161, 0, none⟩) 4 FULL), (.bool false), (.slice none 0 0), (.slice none 0 0)] 125 1
/-- (*railplan/railplanref39.Traffic).second -/
def axk168 : Cut where
  f := 47
  n := 327180
  args := [(.pointer (some ⟨194069, 0, none⟩))]
  pre := [(194069, axb149), (39225, axb4), (39484, axb5), (40179, axb12), (40181, axb23), (40170, axb14), (40185, axb24), (40183, axb16), (234471, axb31), (234460, axb26), (162974, axb30), (162788, .cells [(.int .i64 0), (.int .i64 0)] 247 2), (162955, .cells [(.int .i64 0), (.int .i64 1)] 247 2), (234497, axb83), (300647, .cells [(.int .i64 (-16))] 3 1), (300659, .cells [(.int .i64 0)] 3 1), (300672, .cells [(.int .i64 45)] 3 1), (326890, axb84), (326161, axb147)]
  v := (.bool true)
  post := [(194069, axb150), (39225, axb4), (39484, axb5), (40179, axb12), (40181, axb23), (40170, axb14), (40185, axb24), (40183, axb16), (234471, axb31), (234460, axb26), (162974, axb30), (162788, .cells [(.int .i64 0), (.int .i64 0)] 247 2), (162955, .cells [(.int .i64 0), (.int .i64 1)] 247 2), (234497, axb83), (300647, .cells [(.int .i64 (-16))] 3 1), (300659, .cells [(.int .i64 0)] 3 1), (300672, .cells [(.int .i64 45)] 3 1), (327263, axb84), (326161, axb147)]
  n2 := 327519
  frame := [40189, 5289, 5548, 6243, 6245, 6234, 6249, 6247]
def axk168_h : Hook := (fun _ _ _ _ => none)
def axb151 : EBlk := .cells [(.slice none 0 0), (.slice none 0 0), (.slice (some ⟨39225, 0, none⟩) 2 FULL), (.slice (some ⟨39484, 0, none⟩) 1 FULL), (.slice (some ⟨40179, 0, none⟩) 1 1), (.slice (some ⟨40181, 0, none⟩) 1 1), (.slice (some ⟨40185, 0, none⟩) 1 1), (.slice none 0 0), (.slice (some ⟨234471, 0, none⟩) 1 FULL), (.slice (some ⟨162974, 0, none⟩) 2 FULL), (.slice (some ⟨162974, 0, none⟩) 2 FULL), (.slice (some ⟨234497, 0, none⟩) 1 FULL), (.slice (some ⟨327645, 0, none⟩) 1 FULL), (.slice none 0 0), (.int .i64 146), (.slice (some ⟨327722, 0, none⟩) 5 FULL), (.bool false), (.slice none 0 0), (.slice none 0 0)] 125 1
def axb152 : EBlk := .cells [(.int .i64 0), (.int .i64 1), (.int .i64 1), (.int .i64 201)] 256 4
def axb153 : EBlk := .cells [(.int .i64 40), (.int .i64 5), (.int .i64 0), (.int .i64 0), (.int .i64 0), (.int .i64 0), (.int .i64 84), (.int .i64 5), (.int .i64 0), (.int .i64 0), (.int .i64 1), (.int .i64 0), (.int .i64 100), (.int .i64 8), (.int .i64 0), (.int .i64 0), (.int .i64 0), (.int .i64 0), (.int .i64 141), (.int .i64 2), (.int .i64 0), (.int .i64 0), (.int .i64 1), (.int .i64 0), (.int .i64 145), (.int .i64 1), (.int .i64 0), (.int .i64 0), (.int .i64 0), (.int .i64 0)] 32 6
/-- (*railplan/railplanref39.Traffic).second -/
def axk169 : Cut where
  f := 47
  n := 327553
  args := [(.pointer (some ⟨194069, 0, none⟩))]
  pre := [(194069, axb150), (39225, axb4), (39484, axb5), (40179, axb12), (40181, axb23), (40170, axb14), (40185, axb24), (40183, axb16), (234471, axb31), (234460, axb26), (162974, axb30), (162788, .cells [(.int .i64 0), (.int .i64 0)] 247 2), (162955, .cells [(.int .i64 0), (.int .i64 1)] 247 2), (234497, axb83), (300647, .cells [(.int .i64 (-16))] 3 1), (300659, .cells [(.int .i64 0)] 3 1), (300672, .cells [(.int .i64 45)] 3 1), (327263, axb84), (326161, axb147)]
  v := (.bool true)
  post := [(194069, axb151), (39225, axb4), (39484, axb5), (40179, axb12), (40181, axb23), (40170, axb14), (40185, axb24), (40183, axb16), (234471, axb31), (234460, axb26), (162974, axb30), (162788, .cells [(.int .i64 0), (.int .i64 0)] 247 2), (162955, .cells [(.int .i64 0), (.int .i64 1)] 247 2), (234497, axb83), (300647, .cells [(.int .i64 (-16))] 3 1), (300659, .cells [(.int .i64 0)] 3 1), (300672, .cells [(.int .i64 45)] 3 1), (327645, axb152), (327722, axb153)]
  n2 := 327971
  frame := [40189, 5289, 5548, 6243, 6245, 6234, 6249, 6247]
def axk169_h : Hook := (fun _ _ _ _ => none)
def axb154 : EBlk := .cells [(.slice none 0 0), (.slice none 0 0), (.slice (some ⟨39225, 0, none⟩) 2 FULL), (.slice (some ⟨39484, 0, none⟩) 1 FULL), (.slice (some ⟨40179, 0, none⟩) 1 1), (.slice (some ⟨40181, 0, none⟩) 1 1), (.slice (some ⟨40185, 0, none⟩) 1 1), (.slice none 0 0), (.slice (some ⟨234471, 0, none⟩) 1 FULL), (.slice (some ⟨162974, 0, none⟩) 2 FULL), (.slice (some ⟨162974, 0, none⟩) 2 FULL), (.slice (some ⟨234497, 0, none⟩) 1 FULL), (.slice (some ⟨328053, 0, none⟩) 1 FULL), (.slice none 0 0), (.int .i64 147), (.slice (some ⟨327722, 0, none⟩) 5 FULL), (.bool false), (.slice none 0 0), (.slice none 0 0)] 125 1
/-- (*railplan/railplanref39.Traffic).second -/
def axk170 : Cut where
  f := 47
  n := 328005
  args := [(.pointer (some ⟨194069, 0, none⟩))]
  pre := [(194069, axb151), (39225, axb4), (39484, axb5), (40179, axb12), (40181, axb23), (40170, axb14), (40185, axb24), (40183, axb16), (234471, axb31), (234460, axb26), (162974, axb30), (162788, .cells [(.int .i64 0), (.int .i64 0)] 247 2), (162955, .cells [(.int .i64 0), (.int .i64 1)] 247 2), (234497, axb83), (300647, .cells [(.int .i64 (-16))] 3 1), (300659, .cells [(.int .i64 0)] 3 1), (300672, .cells [(.int .i64 45)] 3 1), (327645, axb152), (327722, axb153)]
  v := (.bool true)
  post := [(194069, axb154), (39225, axb4), (39484, axb5), (40179, axb12), (40181, axb23), (40170, axb14), (40185, axb24), (40183, axb16), (234471, axb31), (234460, axb26), (162974, axb30), (162788, .cells [(.int .i64 0), (.int .i64 0)] 247 2), (162955, .cells [(.int .i64 0), (.int .i64 1)] 247 2), (234497, axb83), (300647, .cells [(.int .i64 (-16))] 3 1), (300659, .cells [(.int .i64 0)] 3 1), (300672, .cells [(.int .i64 45)] 3 1), (328053, axb152), (327722, axb153)]
  n2 := 328309
  frame := [40189, 5289, 5548, 6243, 6245, 6234, 6249, 6247]
def axk170_h : Hook := (fun _ _ _ _ => none)
def axb155 : EBlk := .cells [(.slice none 0 0), (.slice none 0 0), (.slice (some ⟨39225, 0, none⟩) 2 FULL), (.slice (some ⟨39484, 0, none⟩) 1 FULL), (.slice (some ⟨40179, 0, none⟩) 1 1), (.slice (some ⟨40181, 0, none⟩) 1 1), (.slice (some ⟨40185, 0, none⟩) 1 1), (.slice none 0 0), (.slice (some ⟨234471, 0, none⟩) 1 FULL), (.slice (some ⟨162974, 0, none⟩) 2 FULL), (.slice (some ⟨162974, 0, none⟩) 2 FULL), (.slice (some ⟨234497, 0, none⟩) 1 FULL), (.slice (some ⟨328391, 0, none⟩) 1 FULL), (.slice none 0 0), (.int .i64 148), (.slice (some ⟨327722, 0, none⟩) 5 FULL), (.bool false), (.slice none 0 0), (.slice none 0 0)] 125 1
/-- (*railplan/railplanref39.Traffic).second -/
def axk171 : Cut where
  f := 47
  n := 328343
  args := [(.pointer (some ⟨194069, 0, none⟩))]
  pre := [(194069, axb154), (39225, axb4), (39484, axb5), (40179, axb12), (40181, axb23), (40170, axb14), (40185, axb24), (40183, axb16), (234471, axb31), (234460, axb26), (162974, axb30), (162788, .cells [(.int .i64 0), (.int .i64 0)] 247 2), (162955, .cells [(.int .i64 0), (.int .i64 1)] 247 2), (234497, axb83), (300647, .cells [(.int .i64 (-16))] 3 1), (300659, .cells [(.int .i64 0)] 3 1), (300672, .cells [(.int .i64 45)] 3 1), (328053, axb152), (327722, axb153)]
  v := (.bool true)
  post := [(194069, axb155), (39225, axb4), (39484, axb5), (40179, axb12), (40181, axb23), (40170, axb14), (40185, axb24), (40183, axb16), (234471, axb31), (234460, axb26), (162974, axb30), (162788, .cells [(.int .i64 0), (.int .i64 0)] 247 2), (162955, .cells [(.int .i64 0), (.int .i64 1)] 247 2), (234497, axb83), (300647, .cells [(.int .i64 (-16))] 3 1), (300659, .cells [(.int .i64 0)] 3 1), (300672, .cells [(.int .i64 45)] 3 1), (328391, axb152), (327722, axb153)]
  n2 := 328647
  frame := [40189, 5289, 5548, 6243, 6245, 6234, 6249, 6247]
def axk171_h : Hook := (fun _ _ _ _ => none)
def axb156 : EBlk := .cells [(.slice none 0 0), (.slice none 0 0), (.slice (some ⟨39225, 0, none⟩) 2 FULL), (.slice (some ⟨39484, 0, none⟩) 1 FULL), (.slice (some ⟨40179, 0, none⟩) 1 1), (.slice (some ⟨40181, 0, none⟩) 1 1), (.slice (some ⟨40185, 0, none⟩) 1 1), (.slice none 0 0), (.slice (some ⟨234471, 0, none⟩) 1 FULL), (.slice (some ⟨162974, 0, none⟩) 2 FULL), (.slice (some ⟨162974, 0, none⟩) 2 FULL), (.slice (some ⟨234497, 0, none⟩) 1 FULL), (.slice (some ⟨328729, 0, none⟩) 1 FULL), (.slice none 0 0), (.int .i64 149), (.slice (some ⟨327722, 0, none⟩) 5 FULL), (.bool false), (.slice none 0 0), (.slice none 0 0)] 125 1
/-- (*railplan/railplanref39.Traffic).second -/
def axk172 : Cut where
  f := 47
  n := 328681
  args := [(.pointer (some ⟨194069, 0, none⟩))]
  pre := [(194069, axb155), (39225, axb4), (39484, axb5), (40179, axb12), (40181, axb23), (40170, axb14), (40185, axb24), (40183, axb16), (234471, axb31), (234460, axb26), (162974, axb30), (162788, .cells [(.int .i64 0), (.int .i64 0)] 247 2), (162955, .cells [(.int .i64 0), (.int .i64 1)] 247 2), (234497, axb83), (300647, .cells [(.int .i64 (-16))] 3 1), (300659, .cells [(.int .i64 0)] 3 1), (300672, .cells [(.int .i64 45)] 3 1), (328391, axb152), (327722, axb153)]
  v := (.bool true)
  post := [(194069, axb156), (39225, axb4), (39484, axb5), (40179, axb12), (40181, axb23), (40170, axb14), (40185, axb24), (40183, axb16), (234471, axb31), (234460, axb26), (162974, axb30), (162788, .cells [(.int .i64 0), (.int .i64 0)] 247 2), (162955, .cells [(.int .i64 0), (.int .i64 1)] 247 2), (234497, axb83), (300647, .cells [(.int .i64 (-16))] 3 1), (300659, .cells [(.int .i64 0)] 3 1), (300672, .cells [(.int .i64 45)] 3 1), (328729, axb152), (327722, axb153)]
  n2 := 328985
  frame := [40189, 5289, 5548, 6243, 6245, 6234, 6249, 6247]
def axk172_h : Hook := (fun _ _ _ _ => none)
def axb157 : EBlk := .cells [(.slice none 0 0), (.slice none 0 0), (.slice (some ⟨39225, 0, none⟩) 2 FULL), (.slice (some ⟨39484, 0, none⟩) 1 FULL), (.slice (some ⟨40179, 0, none⟩) 1 1), (.slice (some ⟨40181, 0, none⟩) 1 1), (.slice (some ⟨40185, 0, none⟩) 1 1), (.slice none 0 0), (.slice (some ⟨234471, 0, none⟩) 1 FULL), (.slice (some ⟨162974, 0, none⟩) 2 FULL), (.slice (some ⟨162974, 0, none⟩) 2 FULL), (.slice (some ⟨234497, 0, none⟩) 1 FULL), (.slice (some ⟨329067, 0, none⟩) 1 FULL), (.slice none 0 0), (.int .i64 150), (.slice (some ⟨327722, 0, none⟩) 5 FULL), (.bool false), (.slice none 0 0), (.slice none 0 0)] 125 1
/-- (*railplan/railplanref39.Traffic).second -/
def axk173 : Cut where
  f := 47
  n := 329019
  args := [(.pointer (some ⟨194069, 0, none⟩))]
  pre := [(194069, axb156), (39225, axb4), (39484, axb5), (40179, axb12), (40181, axb23), (40170, axb14), (40185, axb24), (40183, axb16), (234471, axb31), (234460, axb26), (162974, axb30), (162788, .cells [(.int .i64 0), (.int .i64 0)] 247 2), (162955, .cells [(.int .i64 0), (.int .i64 1)] 247 2), (234497, axb83), (300647, .cells [(.int .i64 (-16))] 3 1), (300659, .cells [(.int .i64 0)] 3 1), (300672, .cells [(.int .i64 45)] 3 1), (328729, axb152), (327722, axb153)]
  v := (.bool true)
  post := [(194069, axb157), (39225, axb4), (39484, axb5), (40179, axb12), (40181, axb23), (40170, axb14), (40185, axb24), (40183, axb16), (234471, axb31), (234460, axb26), (162974, axb30), (162788, .cells [(.int .i64 0), (.int .i64 0)] 247 2), (162955, .cells [(.int .i64 0), (.int .i64 1)] 247 2), (234497, axb83), (300647, .cells [(.int .i64 (-16))] 3 1), (300659, .cells [(.int .i64 0)] 3 1), (300672, .cells [(.int .i64 45)] 3 1), (329067, axb152), (327722, axb153)]
  n2 := 329323
  frame := [40189, 5289, 5548, 6243, 6245, 6234, 6249, 6247]
def axk173_h : Hook := (fun _ _ _ _ => none)
def axb158 : EBlk := .cells [(.slice none 0 0), (.slice none 0 0), (.slice (some ⟨39225, 0, none⟩) 2 FULL), (.slice (some ⟨39484, 0, none⟩) 1 FULL), (.slice (some ⟨40179, 0, none⟩) 1 1), (.slice (some ⟨40181, 0, none⟩) 1 1), (.slice (some ⟨40185, 0, none⟩) 1 1), (.slice none 0 0), (.slice (some ⟨234471, 0, none⟩) 1 FULL), (.slice (some ⟨162974, 0, none⟩) 2 FULL), (.slice (some ⟨162974, 0, none⟩) 2 FULL), (.slice (some ⟨234497, 0, none⟩) 1 FULL), (.slice (some ⟨329405, 0, none⟩) 1 FULL), (.slice none 0 0), (.int .i64 151), (.slice (some ⟨327722, 0, none⟩) 5 FULL), (.bool false), (.slice none 0 0), (.slice none 0 0)] 125 1
/-- (*railplan/railplanref39.Traffic).second -/
def axk174 : Cut where
  f := 47
  n := 329357
  args := [(.pointer (some ⟨194069, 0, none⟩))]
  pre := [(194069, axb157), (39225, axb4), (39484, axb5), (40179, axb12), (40181, axb23), (40170, axb14), (40185, axb24), (40183, axb16), (234471, axb31), (234460, axb26), (162974, axb30), (162788, .cells [(.int .i64 0), (.int .i64 0)] 247 2), (162955, .cells [(.int .i64 0), (.int .i64 1)] 247 2), (234497, axb83), (300647, .cells [(.int .i64 (-16))] 3 1), (300659, .cells [(.int .i64 0)] 3 1), (300672, .cells [(.int .i64 45)] 3 1), (329067, axb152), (327722, axb153)]
  v := (.bool true)
  post := [(194069, axb158), (39225, axb4), (39484, axb5), (40179, axb12), (40181, axb23), (40170, axb14), (40185, axb24), (40183, axb16), (234471, axb31), (234460, axb26), (162974, axb30), (162788, .cells [(.int .i64 0), (.int .i64 0)] 247 2), (162955, .cells [(.int .i64 0), (.int .i64 1)] 247 2), (234497, axb83), (300647, .cells [(.int .i64 (-16))] 3 1), (300659, .cells [(.int .i64 0)] 3 1), (300672, .cells [(.int .i64 45)] 3 1), (329405, axb152), (327722, axb153)]
  n2 := 329661
  frame := [40189, 5289, 5548, 6243, 6245, 6234, 6249, 6247]
def axk174_h : Hook := (fun _ _ _ _ => none)
def axb159 : EBlk := .cells [(.slice none 0 0), (.slice none 0 0), (.slice (some ⟨39225, 0, none⟩) 2 FULL), (.slice (some ⟨39484, 0, none⟩) 1 FULL), (.slice (some ⟨40179, 0, none⟩) 1 1), (.slice (some ⟨40181, 0, none⟩) 1 1), (.slice (some ⟨40185, 0, none⟩) 1 1), (.slice none 0 0), (.slice (some ⟨234471, 0, none⟩) 1 FULL), (.slice (some ⟨162974, 0, none⟩) 2 FULL), (.slice (some ⟨162974, 0, none⟩) 2 FULL), (.slice (some ⟨234497, 0, none⟩) 1 FULL), (.slice (some ⟨329743, 0, none⟩) 1 FULL), (.slice none 0 0), (.int .i64 152), (.slice (some ⟨327722, 0, none⟩) 5 FULL), (.bool false), (.slice none 0 0), (.slice none 0 0)] 125 1
/-- (*railplan/railplanref39.Traffic).second -/
def axk175 : Cut where
  f := 47
  n := 329695
  args := [(.pointer (some ⟨194069, 0, none⟩))]
  pre := [(194069, axb158), (39225, axb4), (39484, axb5), (40179, axb12), (40181, axb23), (40170, axb14), (40185, axb24), (40183, axb16), (234471, axb31), (234460, axb26), (162974, axb30), (162788, .cells [(.int .i64 0), (.int .i64 0)] 247 2), (162955, .cells [(.int .i64 0), (.int .i64 1)] 247 2), (234497, axb83), (300647, .cells [(.int .i64 (-16))] 3 1), (300659, .cells [(.int .i64 0)] 3 1), (300672, .cells [(.int .i64 45)] 3 1), (329405, axb152), (327722, axb153)]
  v := (.bool true)
  post := [(194069, axb159), (39225, axb4), (39484, axb5), (40179, axb12), (40181, axb23), (40170, axb14), (40185, axb24), (40183, axb16), (234471, axb31), (234460, axb26), (162974, axb30), (162788, .cells [(.int .i64 0), (.int .i64 0)] 247 2), (162955, .cells [(.int .i64 0), (.int .i64 1)] 247 2), (234497, axb83), (300647, .cells [(.int .i64 (-16))] 3 1), (300659, .cells [(.int .i64 0)] 3 1), (300672, .cells [(.int .i64 45)] 3 1), (329743, axb152), (327722, axb153)]
  n2 := 329999
  frame := [40189, 5289, 5548, 6243, 6245, 6234, 6249, 6247]
def axk175_h : Hook := (fun _ _ _ _ => none)
def axb160 : EBlk := .cells [(.slice none 0 0), (.slice none 0 0), (.slice (some ⟨39225, 0, none⟩) 2 FULL), (.slice (some ⟨39484, 0, none⟩) 1 FULL), (.slice (some ⟨40179, 0, none⟩) 1 1), (.slice (some ⟨40181, 0, none⟩) 1 1), (.slice (some ⟨40185, 0, none⟩) 1 1), (.slice none 0 0), (.slice (some ⟨234471, 0, none⟩) 1 FULL), (.slice (some ⟨162974, 0, none⟩) 2 FULL), (.slice (some ⟨162974, 0, none⟩) 2 FULL), (.slice (some ⟨234497, 0, none⟩) 1 FULL), (.slice (some ⟨330081, 0, none⟩) 1 FULL), (.slice none 0 0), (.int .i64 153), (.slice (some ⟨327722, 0, none⟩) 5 FULL), (.bool false), (.slice none 0 0), (.slice none 0 0)] 125 1
/-- (*railplan/railplanref39.Traffic).second -/
def axk176 : Cut where
  f := 47
  n := 330033
  args := [(.pointer (some ⟨194069, 0, none⟩))]
  pre := [(194069, axb159), (39225, axb4), (39484, axb5), (40179, axb12), (40181, axb23), (40170, axb14), (40185, axb24), (40183, axb16), (234471, axb31), (234460, axb26), (162974, axb30), (162788, .cells [(.int .i64 0), (.int .i64 0)] 247 2), (162955, .cells [(.int .i64 0), (.int .i64 1)] 247 2), (234497, axb83), (300647, .cells [(.int .i64 (-16))] 3 1), (300659, .cells [(.int .i64 0)] 3 1), (300672, .cells [(.int .i64 45)] 3 1), (329743, axb152), (327722, axb153)]
  v := (.bool true)
  post := [(194069, axb160), (39225, axb4), (39484, axb5), (40179, axb12), (40181, axb23), (40170, axb14), (40185, axb24), (40183, axb16), (234471, axb31), (234460, axb26), (162974, axb30), (162788, .cells [(.int .i64 0), (.int .i64 0)] 247 2), (162955, .cells [(.int .i64 0), (.int .i64 1)] 247 2), (234497, axb83), (300647, .cells [(.int .i64 (-16))] 3 1), (300659, .cells [(.int .i64 0)] 3 1), (300672, .cells [(.int .i64 45)] 3 1), (330081, axb152), (327722, axb153)]
  n2 := 330337
  frame := [40189, 5289, 5548, 6243, 6245, 6234, 6249, 6247]
def axk176_h : Hook := (fun _ _ _ _ => none)
def axb161 : EBlk := .cells [(.slice none 0 0), (.slice none 0 0), (.slice (some ⟨39225, 0, none⟩) 2 FULL), (.slice (some ⟨39484, 0, none⟩) 1 FULL), (.slice (some ⟨40179, 0, none⟩) 1 1), (.slice (some ⟨40181, 0, none⟩) 1 1), (.slice (some ⟨40185, 0, none⟩) 1 1), (.slice none 0 0), (.slice (some ⟨234471, 0, none⟩) 1 FULL), (.slice (some ⟨162974, 0, none⟩) 2 FULL), (.slice (some ⟨162974, 0, none⟩) 2 FULL), (.slice (some ⟨234497, 0, none⟩) 1 FULL), (.slice (some ⟨330419, 0, none⟩) 1 FULL), (.slice none 0 0), (.int .i64 154), (.slice (some ⟨327722, 0, none⟩) 5 FULL), (.bool false), (.slice none 0 0), (.slice none 0 0)] 125 1
/-- (*railplan/railplanref39.Traffic).second -/
def axk177 : Cut where
  f := 47
  n := 330371
  args := [(.pointer (some ⟨194069, 0, none⟩))]
  pre := [(194069, axb160), (39225, axb4), (39484, axb5), (40179, axb12), (40181, axb23), (40170, axb14), (40185, axb24), (40183, axb16), (234471, axb31), (234460, axb26), (162974, axb30), (162788, .cells [(.int .i64 0), (.int .i64 0)] 247 2), (162955, .cells [(.int .i64 0), (.int .i64 1)] 247 2), (234497, axb83), (300647, .cells [(.int .i64 (-16))] 3 1), (300659, .cells [(.int .i64 0)] 3 1), (300672, .cells [(.int .i64 45)] 3 1), (330081, axb152), (327722, axb153)]
  v := (.bool true)
  post := [(194069, axb161), (39225, axb4), (39484, axb5), (40179, axb12), (40181, axb23), (40170, axb14), (40185, axb24), (40183, axb16), (234471, axb31), (234460, axb26), (162974, axb30), (162788, .cells [(.int .i64 0), (.int .i64 0)] 247 2), (162955, .cells [(.int .i64 0), (.int .i64 1)] 247 2), (234497, axb83), (300647, .cells [(.int .i64 (-16))] 3 1), (300659, .cells [(.int .i64 0)] 3 1), (300672, .cells [(.int .i64 45)] 3 1), (330419, axb152), (327722, axb153)]
  n2 := 330675
  frame := [40189, 5289, 5548, 6243, 6245, 6234, 6249, 6247]
def axk177_h : Hook := (fun _ _ _ _ => none)
def axb162 : EBlk := .cells [(.slice none 0 0), (.slice none 0 0), (.slice (some ⟨39225, 0, none⟩) 2 FULL), (.slice (some ⟨39484, 0, none⟩) 1 FULL), (.slice (some ⟨40179, 0, none⟩) 1 1), (.slice (some ⟨40181, 0, none⟩) 1 1), (.slice (some ⟨40185, 0, none⟩) 1 1), (.slice none 0 0), (.slice (some ⟨234471, 0, none⟩) 1 FULL), (.slice (some ⟨162974, 0, none⟩) 2 FULL), (.slice (some ⟨162974, 0, none⟩) 2 FULL), (.slice (some ⟨234497, 0, none⟩) 1 FULL), (.slice (some ⟨330757, 0, none⟩) 1 FULL), (.slice none 0 0), (.int .i64 155), (.slice (some ⟨327722, 0, none⟩) 5 FULL), (.bool false), (.slice none 0 0), (.slice none 0 0)] 125 1
/-- (*railplan/railplanref39.Traffic).second -/
def axk178 : Cut where
  f := 47
  n := 330709
  args := [(.pointer (some ⟨194069, 0, none⟩))]
  pre := [(194069, axb161), (39225, axb4), (39484, axb5), (40179, axb12), (40181, axb23), (40170, axb14), (40185, axb24), (40183, axb16), (234471, axb31), (234460, axb26), (162974, axb30), (162788, .cells [(.int .i64 0), (.int .i64 0)] 247 2), (162955, .cells [(.int .i64 0), (.int .i64 1)] 247 2), (234497, axb83), (300647, .cells [(.int .i64 (-16))] 3 1), (300659, .cells [(.int .i64 0)] 3 1), (300672, .cells [(.int .i64 45)] 3 1), (330419, axb152), (327722, axb153)]
  v := (.bool true)
  post := [(194069, axb162), (39225, axb4), (39484, axb5), (40179, axb12), (40181, axb23), (40170, axb14), (40185, axb24), (40183, axb16), (234471, axb31), (234460, axb26), (162974, axb30), (162788, .cells [(.int .i64 0), (.int .i64 0)] 247 2), (162955, .cells [(.int .i64 0), (.int .i64 1)] 247 2), (234497, axb83), (300647, .cells [(.int .i64 (-16))] 3 1), (300659, .cells [(.int .i64 0)] 3 1), (300672, .cells [(.int .i64 45)] 3 1), (330757, axb152), (327722, axb153)]
  n2 := 331013
  frame := [40189, 5289, 5548, 6243, 6245, 6234, 6249, 6247]
def axk178_h : Hook := (fun _ _ _ _ => none)
def axb163 : EBlk := .cells [(.slice none 0 0), (.slice none 0 0), (.slice (some ⟨39225, 0, none⟩) 2 FULL), (.slice (some ⟨39484, 0, none⟩) 1 FULL), (.slice (some ⟨40179, 0, none⟩) 1 1), (.slice (some ⟨40181, 0, none⟩) 1 1), (.slice (some ⟨40185, 0, none⟩) 1 1), (.slice none 0 0), (.slice (some ⟨234471, 0, none⟩) 1 FULL), (.slice (some ⟨162974, 0, none⟩) 2 FULL), (.slice (some ⟨162974, 0, none⟩) 2 FULL), (.slice (some ⟨234497, 0, none⟩) 1 FULL), (.slice (some ⟨331095, 0, none⟩) 1 FULL), (.slice none 0 0), (.int .i64 156), (.slice (some ⟨327722, 0, none⟩) 5 FULL), (.bool false), (.slice none 0 0), (.slice none 0 0)] 125 1
/-- (*railplan/railplanref39.Traffic).second -/
def axk179 : Cut where
  f := 47
  n := 331047
  args := [(.pointer (some ⟨194069, 0, none⟩))]
  pre := [(194069, axb162), (39225, axb4), (39484, axb5), (40179, axb12), (40181, axb23), (40170, axb14), (40185, axb24), (40183, axb16), (234471, axb31), (234460, axb26), (162974, axb30), (162788, .cells [(.int .i64 0), (.int .i64 0)] 247 2), (162955, .cells [(.int .i64 0), (.int .i64 1)] 247 2), (234497, axb83), (300647, .cells [(.int .i64 (-16))] 3 1), (300659, .cells [(.int .i64 0)] 3 1), (300672, .cells [(.int .i64 45)] 3 1), (330757, axb152), (327722, axb153)]
  v := (.bool true)
  post := [(194069, axb163), (39225, axb4), (39484, axb5), (40179, axb12), (40181, axb23), (40170, axb14), (40185, axb24), (40183, axb16), (234471, axb31), (234460, axb26), (162974, axb30), (162788, .cells [(.int .i64 0), (.int .i64 0)] 247 2), (162955, .cells [(.int .i64 0), (.int .i64 1)] 247 2), (234497, axb83), (300647, .cells [(.int .i64 (-16))] 3 1), (300659, .cells [(.int .i64 0)] 3 1), (300672, .cells [(.int .i64 45)] 3 1), (331095, axb152), (327722, axb153)]
  n2 := 331351
  frame := [40189, 5289, 5548, 6243, 6245, 6234, 6249, 6247]
def axk179_h : Hook := (fun _ _ _ _ => none)
def axb164 : EBlk := .cells [(.slice none 0 0), (.slice none 0 0), (.slice (some ⟨39225, 0, none⟩) 2 FULL), (.slice (some ⟨39484, 0, none⟩) 1 FULL), (.slice (some ⟨40179, 0, none⟩) 1 1), (.slice (some ⟨40181, 0, none⟩) 1 1), (.slice (some ⟨40185, 0, none⟩) 1 1), (.slice none 0 0), (.slice (some ⟨234471, 0, none⟩) 1 FULL), (.slice (some ⟨162974, 0, none⟩) 2 FULL), (.slice (some ⟨162974, 0, none⟩) 2 FULL), (.slice (some ⟨234497, 0, none⟩) 1 FULL), (.slice (some ⟨331433, 0, none⟩) 1 FULL), (.slice none 0 0), (.int .i64 157), (.slice (some ⟨327722, 0, none⟩) 5 FULL), (.bool false), (.slice none 0 0), (.slice none 0 0)] 125 1
/-- (*railplan/railplanref39.Traffic).second -/
def axk180 : Cut where
  f := 47
  n := 331385
  args := [(.pointer (some ⟨194069, 0, none⟩))]
  pre := [(194069, axb163), (39225, axb4), (39484, axb5), (40179, axb12), (40181, axb23), (40170, axb14), (40185, axb24), (40183, axb16), (234471, axb31), (234460, axb26), (162974, axb30), (162788, .cells [(.int .i64 0), (.int .i64 0)] 247 2), (162955, .cells [(.int .i64 0), (.int .i64 1)] 247 2), (234497, axb83), (300647, .cells [(.int .i64 (-16))] 3 1), (300659, .cells [(.int .i64 0)] 3 1), (300672, .cells [(.int .i64 45)] 3 1), (331095, axb152), (327722, axb153)]
  v := (.bool true)
  post := [(194069, axb164), (39225, axb4), (39484, axb5), (40179, axb12), (40181, axb23), (40170, axb14), (40185, axb24), (40183, axb16), (234471, axb31), (234460, axb26), (162974, axb30), (162788, .cells [(.int .i64 0), (.int .i64 0)] 247 2), (162955, .cells [(.int .i64 0), (.int .i64 1)] 247 2), (234497, axb83), (300647, .cells [(.int .i64 (-16))] 3 1), (300659, .cells [(.int .i64 0)] 3 1), (300672, .cells [(.int .i64 45)] 3 1), (331433, axb152), (327722, axb153)]
  n2 := 331689
  frame := [40189, 5289, 5548, 6243, 6245, 6234, 6249, 6247]
def axk180_h : Hook := (fun _ _ _ _ => none)
def axb165 : EBlk := .cells [(.slice none 0 0), (.slice none 0 0), (.slice (some ⟨39225, 0, none⟩) 2 FULL), (.slice (some ⟨39484, 0, none⟩) 1 FULL), (.slice (some ⟨40179, 0, none⟩) 1 1), (.slice (some ⟨40181, 0, none⟩) 1 1), (.slice (some ⟨40185, 0, none⟩) 1 1), (.slice none 0 0), (.slice (some ⟨234471, 0, none⟩) 1 FULL), (.slice (some ⟨162974, 0, none⟩) 2 FULL), (.slice (some ⟨162974, 0, none⟩) 2 FULL), (.slice (some ⟨234497, 0, none⟩) 1 FULL), (.slice (some ⟨331771, 0, none⟩) 1 FULL), (.slice none 0 0), (.int .i64 158), (.slice (some ⟨327722, 0, none⟩) 5 FULL), (.bool false), (.slice none 0 0), (.slice none 0 0)] 125 1
/-- (*railplan/railplanref39.Traffic).second -/
def axk181 : Cut where
  f := 47
  n := 331723
  args := [(.pointer (some ⟨194069, 0, none⟩))]
  pre := [(194069, axb164), (39225, axb4), (39484, axb5), (40179, axb12), (40181, axb23), (40170, axb14), (40185, axb24), (40183, axb16), (234471, axb31), (234460, axb26), (162974, axb30), (162788, .cells [(.int .i64 0), (.int .i64 0)] 247 2), (162955, .cells [(.int .i64 0), (.int .i64 1)] 247 2), (234497, axb83), (300647, .cells [(.int .i64 (-16))] 3 1), (300659, .cells [(.int .i64 0)] 3 1), (300672, .cells [(.int .i64 45)] 3 1), (331433, axb152), (327722, axb153)]
  v := (.bool true)
  post := [(194069, axb165), (39225, axb4), (39484, axb5), (40179, axb12), (40181, axb23), (40170, axb14), (40185, axb24), (40183, axb16), (234471, axb31), (234460, axb26), (162974, axb30), (162788, .cells [(.int .i64 0), (.int .i64 0)] 247 2), (162955, .cells [(.int .i64 0), (.int .i64 1)] 247 2), (234497, axb83), (300647, .cells [(.int .i64 (-16))] 3 1), (300659, .cells [(.int .i64 0)] 3 1), (300672, .cells [(.int .i64 45)] 3 1), (331771, axb152), (327722, axb153)]
  n2 := 332027
  frame := [40189, 5289, 5548, 6243, 6245, 6234, 6249, 6247]
def axk181_h : Hook := (fun _ _ _ _ => none)
def axb166 : EBlk := .cells [(.slice none 0 0), (.slice none 0 0), (.slice (some ⟨39225, 0, none⟩) 2 FULL), (.slice (some ⟨39484, 0, none⟩) 1 FULL), (.slice (some ⟨40179, 0, none⟩) 1 1), (.slice (some ⟨40181, 0, none⟩) 1 1), (.slice (some ⟨40185, 0, none⟩) 1 1), (.slice none 0 0), (.slice (some ⟨234471, 0, none⟩) 1 FULL), (.slice (some ⟨162974, 0, none⟩) 2 FULL), (.slice (some ⟨162974, 0, none⟩) 2 FULL), (.slice (some ⟨234497, 0, none⟩) 1 FULL), (.slice (some ⟨332109, 0, none⟩) 1 FULL), (.slice none 0 0), (.int .i64 159), (.slice (some ⟨327722, 0, none⟩) 5 FULL), (.bool false), (.slice none 0 0), (.slice none 0 0)] 125 1
/-- (*railplan/railplanref39.Traffic).second -/
def axk182 : Cut where
  f := 47
  n := 332061
  args := [(.pointer (some ⟨194069, 0, none⟩))]
  pre := [(194069, axb165), (39225, axb4), (39484, axb5), (40179, axb12), (40181, axb23), (40170, axb14), (40185, axb24), (40183, axb16), (234471, axb31), (234460, axb26), (162974, axb30), (162788, .cells [(.int .i64 0), (.int .i64 0)] 247 2), (162955, .cells [(.int .i64 0), (.int .i64 1)] 247 2), (234497, axb83), (300647, .cells [(.int .i64 (-16))] 3 1), (300659, .cells [(.int .i64 0)] 3 1), (300672, .cells [(.int .i64 45)] 3 1), (331771, axb152), (327722, axb153)]
  v := (.bool true)
  post := [(194069, axb166), (39225, axb4), (39484, axb5), (40179, axb12), (40181, axb23), (40170, axb14), (40185, axb24), (40183, axb16), (234471, axb31), (234460, axb26), (162974, axb30), (162788, .cells [(.int .i64 0), (.int .i64 0)] 247 2), (162955, .cells [(.int .i64 0), (.int .i64 1)] 247 2), (234497, axb83), (300647, .cells [(.int .i64 (-16))] 3 1), (300659, .cells [(.int .i64 0)] 3 1), (300672, .cells [(.int .i64 45)] 3 1), (332109, axb152), (327722, axb153)]
  n2 := 332365
  frame := [40189, 5289, 5548, 6243, 6245, 6234, 6249, 6247]
def axk182_h : Hook := (fun _ _ _ _ => none)
def axb167 : EBlk := .cells [(.slice none 0 0), (.slice none 0 0), (.slice (some ⟨39225, 0, none⟩) 2 FULL), (.slice (some ⟨39484, 0, none⟩) 1 FULL), (.slice (some ⟨40179, 0, none⟩) 1 1), (.slice (some ⟨40181, 0, none⟩) 1 1), (.slice (some ⟨40185, 0, none⟩) 1 1), (.slice none 0 0), (.slice (some ⟨234471, 0, none⟩) 1 FULL), (.slice (some ⟨162974, 0, none⟩) 2 FULL), (.slice (some ⟨162974, 0, none⟩) 2 FULL), (.slice (some ⟨234497, 0, none⟩) 1 FULL), (.slice (some ⟨332447, 0, none⟩) 1 FULL), (.slice none 0 0), (.int .i64 160), (.slice (some ⟨327722, 0, none⟩) 5 FULL), (.bool false), (.slice none 0 0), (.slice none 0 0)] 125 1
/-- (*railplan/railplanref39.Traffic).second -/
def axk183 : Cut where
  f := 47
  n := 332399
  args := [(.pointer (some ⟨194069, 0, none⟩))]
  pre := [(194069, axb166), (39225, axb4), (39484, axb5), (40179, axb12), (40181, axb23), (40170, axb14), (40185, axb24), (40183, axb16), (234471, axb31), (234460, axb26), (162974, axb30), (162788, .cells [(.int .i64 0), (.int .i64 0)] 247 2), (162955, .cells [(.int .i64 0), (.int .i64 1)] 247 2), (234497, axb83), (300647, .cells [(.int .i64 (-16))] 3 1), (300659, .cells [(.int .i64 0)] 3 1), (300672, .cells [(.int .i64 45)] 3 1), (332109, axb152), (327722, axb153)]
  v := (.bool true)
  post := [(194069, axb167), (39225, axb4), (39484, axb5), (40179, axb12), (40181, axb23), (40170, axb14), (40185, axb24), (40183, axb16), (234471, axb31), (234460, axb26), (162974, axb30), (162788, .cells [(.int .i64 0), (.int .i64 0)] 247 2), (162955, .cells [(.int .i64 0), (.int .i64 1)] 247 2), (234497, axb83), (300647, .cells [(.int .i64 (-16))] 3 1), (300659, .cells [(.int .i64 0)] 3 1), (300672, .cells [(.int .i64 45)] 3 1), (332447, axb152), (327722, axb153)]
  n2 := 332703
  frame := [40189, 5289, 5548, 6243, 6245, 6234, 6249, 6247]
def axk183_h : Hook := (fun _ _ _ _ => none)
def axb168 : EBlk := .cells [(.slice none 0 0), (.slice none 0 0), (.slice (some ⟨39225, 0, none⟩) 2 FULL), (.slice (some ⟨39484, 0, none⟩) 1 FULL), (.slice (some ⟨40179, 0, none⟩) 1 1), (.slice (some ⟨40181, 0, none⟩) 1 1), (.slice (some ⟨40185, 0, none⟩) 1 1), (.slice none 0 0), (.slice (some ⟨234471, 0, none⟩) 1 FULL), (.slice (some ⟨162974, 0, none⟩) 2 FULL), (.slice (some ⟨162974, 0, none⟩) 2 FULL), (.slice (some ⟨234497, 0, none⟩) 1 FULL), (.slice (some ⟨332785, 0, none⟩) 1 FULL), (.slice none 0 0), (.int .i64 161), (.slice (some ⟨327722, 0, none⟩) 5 FULL), (.bool false), (.slice none 0 0), (.slice none 0 0)] 125 1
/-- (*railplan/railplanref39.Traffic).second -/
def axk184 : Cut where
  f := 47
  n := 332737
  args := [(.pointer (some ⟨194069, 0, none⟩))]
  pre := [(194069, axb167), (39225, axb4), (39484, axb5), (40179, axb12), (40181, axb23), (40170, axb14), (40185, axb24), (40183, axb16), (234471, axb31), (234460, axb26), (162974, axb30), (162788, .cells [(.int .i64 0), (.int .i64 0)] 247 2), (162955, .cells [(.int .i64 0), (.int .i64 1)] 247 2), (234497, axb83), (300647, .cells [(.int .i64 (-16))] 3 1), (300659, .cells [(.int .i64 0)] 3 1), (300672, .cells [(.int .i64 45)] 3 1), (332447, axb152), (327722, axb153)]
  v := (.bool true)
  post := [(194069, axb168), (39225, axb4), (39484, axb5), (40179, axb12), (40181, axb23), (40170, axb14), (40185, axb24), (40183, axb16), (234471, axb31), (234460, axb26), (162974, axb30), (162788, .cells [(.int .i64 0), (.int .i64 0)] 247 2), (162955, .cells [(.int .i64 0), (.int .i64 1)] 247 2), (234497, axb83), (300647, .cells [(.int .i64 (-16))] 3 1), (300659, .cells [(.int .i64 0)] 3 1), (300672, .cells [(.int .i64 45)] 3 1), (332785, axb152), (327722, axb153)]
  n2 := 333041
  frame := [40189, 5289, 5548, 6243, 6245, 6234, 6249, 6247]
def axk184_h : Hook := (fun _ _ _ _ => none)
end Go.Proofs.YtnglahcjemgcaaaGreatDoor
