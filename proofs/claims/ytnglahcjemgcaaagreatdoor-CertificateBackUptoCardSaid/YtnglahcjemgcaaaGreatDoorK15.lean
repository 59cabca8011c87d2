/- Closed calls of this program, data (text 2). No condition. Printed by mkaw.py. -/
import Derived.Test.YtnglahcjemgcaaaGreatDoorK14
namespace Go.Proofs.YtnglahcjemgcaaaGreatDoor
open Go.RowKit

def axb169 : EBlk := .cells [(.slice none 0 0), (.slice none 0 0), (.slice (some ⟨39225, 0, none⟩) 2 FULL), (.slice (some ⟨39484, 0, none⟩) 1 FULL), (.slice (some ⟨40179, 0, none⟩) 1 1), (.slice (some ⟨40181, 0, none⟩) 1 1), (.slice (some ⟨40185, 0, none⟩) 1 1), (.slice none 0 0), (.slice (some ⟨234471, 0, none⟩) 1 FULL), (.slice (some ⟨162974, 0, none⟩) 2 FULL), (.slice (some ⟨162974, 0, none⟩) 2 FULL), (.slice (some ⟨234497, 0, none⟩) 1 FULL), (.slice (some ⟨333123, 0, none⟩) 1 FULL), (.slice none 0 0), (.int .i64 162), (.slice (some ⟨327722, 0, none⟩) 5 FULL), (.bool false), (.slice none 0 0), (.slice none 0 0)] 125 1
/-- (*railplan/railplanref39.Traffic).second -/
def axk185 : Cut where
  f := 47
  n := 333075
  args := [(.pointer (some ⟨194069, 0, none⟩))]
  pre := [(194069, axb168), (39225, axb4), (39484, axb5), (40179, axb12), (40181, axb23), (40170, axb14), (40185, axb24), (40183, axb16), (234471, axb31), (234460, axb26), (162974, axb30), (162788, .cells [(.int .i64 0), (.int .i64 0)] 247 2), (162955, .cells [(.int .i64 0), (.int .i64 1)] 247 2), (234497, axb83), (300647, .cells [(.int .i64 (-16))] 3 1), (300659, .cells [(.int .i64 0)] 3 1), (300672, .cells [(.int .i64 45)] 3 1), (332785, axb152), (327722, axb153)]
  v := (.bool true)
  post := [(194069, axb169), (39225, axb4), (39484, axb5), (40179, axb12), (40181, axb23), (40170, axb14), (40185, axb24), (40183, axb16), (234471, axb31), (234460, axb26), (162974, axb30), (162788, .cells [(.int .i64 0), (.int .i64 0)] 247 2), (162955, .cells [(.int .i64 0), (.int .i64 1)] 247 2), (234497, axb83), (300647, .cells [(.int .i64 (-16))] 3 1), (300659, .cells [(.int .i64 0)] 3 1), (300672, .cells [(.int .i64 45)] 3 1), (333123, axb152), (327722, axb153)]
  n2 := 333379
  frame := [40189, 5289, 5548, 6243, 6245, 6234, 6249, 6247]
def axk185_h : Hook := (fun _ _ _ _ => none)
def axb170 : EBlk := .cells [(.slice none 0 0), (.slice none 0 0), (.slice (some ⟨39225, 0, none⟩) 2 FULL), (.slice (some ⟨39484, 0, none⟩) 1 FULL), (.slice (some ⟨40179, 0, none⟩) 1 1), (.slice (some ⟨40181, 0, none⟩) 1 1), (.slice (some ⟨40185, 0, none⟩) 1 1), (.slice none 0 0), (.slice (some ⟨234471, 0, none⟩) 1 FULL), (.slice (some ⟨162974, 0, none⟩) 2 FULL), (.slice (some ⟨162974, 0, none⟩) 2 FULL), (.slice (some ⟨234497, 0, none⟩) 1 FULL), (.slice (some ⟨333461, 0, none⟩) 1 FULL), (.slice none 0 0), (.int .i64 163), (.slice (some ⟨327722, 0, none⟩) 5 FULL), (.bool false), (.slice none 0 0), (.slice none 0 0)] 125 1
/-- (*railplan/railplanref39.Traffic).second -/
def axk186 : Cut where
  f := 47
  n := 333413
  args := [(.pointer (some ⟨194069, 0, none⟩))]
  pre := [(194069, axb169), (39225, axb4), (39484, axb5), (40179, axb12), (40181, axb23), (40170, axb14), (40185, axb24), (40183, axb16), (234471, axb31), (234460, axb26), (162974, axb30), (162788, .cells [(.int .i64 0), (.int .i64 0)] 247 2), (162955, .cells [(.int .i64 0), (.int .i64 1)] 247 2), (234497, axb83), (300647, .cells [(.int .i64 (-16))] 3 1), (300659, .cells [(.int .i64 0)] 3 1), (300672, .cells [(.int .i64 45)] 3 1), (333123, axb152), (327722, axb153)]
  v := (.bool true)
  post := [(194069, axb170), (39225, axb4), (39484, axb5), (40179, axb12), (40181, axb23), (40170, axb14), (40185, axb24), (40183, axb16), (234471, axb31), (234460, axb26), (162974, axb30), (162788, .cells [(.int .i64 0), (.int .i64 0)] 247 2), (162955, .cells [(.int .i64 0), (.int .i64 1)] 247 2), (234497, axb83), (300647, .cells [(.int .i64 (-16))] 3 1), (300659, .cells [(.int .i64 0)] 3 1), (300672, .cells [(.int .i64 45)] 3 1), (333461, axb152), (327722, axb153)]
  n2 := 333717
  frame := [40189, 5289, 5548, 6243, 6245, 6234, 6249, 6247]
def axk186_h : Hook := (fun _ _ _ _ => none)
def axb171 : EBlk := .cells [(.slice none 0 0), (.slice none 0 0), (.slice (some ⟨39225, 0, none⟩) 2 FULL), (.slice (some ⟨39484, 0, none⟩) 1 FULL), (.slice (some ⟨40179, 0, none⟩) 1 1), (.slice (some ⟨40181, 0, none⟩) 1 1), (.slice (some ⟨40185, 0, none⟩) 1 1), (.slice none 0 0), (.slice (some ⟨234471, 0, none⟩) 1 FULL), (.slice (some ⟨162974, 0, none⟩) 2 FULL), (.slice (some ⟨162974, 0, none⟩) 2 FULL), (.slice (some ⟨234497, 0, none⟩) 1 FULL), (.slice (some ⟨333799, 0, none⟩) 1 FULL), (.slice none 0 0), (.int .i64 164), (.slice (some ⟨327722, 0, none⟩) 5 FULL), (.bool false), (.slice none 0 0), (.slice none 0 0)] 125 1
/-- (*railplan/railplanref39.Traffic).second -/
def axk187 : Cut where
  f := 47
  n := 333751
  args := [(.pointer (some ⟨194069, 0, none⟩))]
  pre := [(194069, axb170), (39225, axb4), (39484, axb5), (40179, axb12), (40181, axb23), (40170, axb14), (40185, axb24), (40183, axb16), (234471, axb31), (234460, axb26), (162974, axb30), (162788, .cells [(.int .i64 0), (.int .i64 0)] 247 2), (162955, .cells [(.int .i64 0), (.int .i64 1)] 247 2), (234497, axb83), (300647, .cells [(.int .i64 (-16))] 3 1), (300659, .cells [(.int .i64 0)] 3 1), (300672, .cells [(.int .i64 45)] 3 1), (333461, axb152), (327722, axb153)]
  v := (.bool true)
  post := [(194069, axb171), (39225, axb4), (39484, axb5), (40179, axb12), (40181, axb23), (40170, axb14), (40185, axb24), (40183, axb16), (234471, axb31), (234460, axb26), (162974, axb30), (162788, .cells [(.int .i64 0), (.int .i64 0)] 247 2), (162955, .cells [(.int .i64 0), (.int .i64 1)] 247 2), (234497, axb83), (300647, .cells [(.int .i64 (-16))] 3 1), (300659, .cells [(.int .i64 0)] 3 1), (300672, .cells [(.int .i64 45)] 3 1), (333799, axb152), (327722, axb153)]
  n2 := 334055
  frame := [40189, 5289, 5548, 6243, 6245, 6234, 6249, 6247]
def axk187_h : Hook := (fun _ _ _ _ => none)
def axb172 : EBlk := .cells [(.slice none 0 0), (.slice none 0 0), (.slice (some ⟨39225, 0, none⟩) 2 FULL), (.slice (some ⟨39484, 0, none⟩) 1 FULL), (.slice (some ⟨40179, 0, none⟩) 1 1), (.slice (some ⟨40181, 0, none⟩) 1 1), (.slice (some ⟨40185, 0, none⟩) 1 1), (.slice none 0 0), (.slice (some ⟨234471, 0, none⟩) 1 FULL), (.slice (some ⟨162974, 0, none⟩) 2 FULL), (.slice (some ⟨162974, 0, none⟩) 2 FULL), (.slice (some ⟨234497, 0, none⟩) 1 FULL), (.slice (some ⟨334137, 0, none⟩) 1 FULL), (.slice none 0 0), (.int .i64 165), (.slice (some ⟨327722, 0, none⟩) 5 FULL), (.bool false), (.slice none 0 0), (.slice none 0 0)] 125 1
/-- (*railplan/railplanref39.Traffic).second -/
def axk188 : Cut where
  f := 47
  n := 334089
  args := [(.pointer (some ⟨194069, 0, none⟩))]
  pre := [(194069, axb171), (39225, axb4), (39484, axb5), (40179, axb12), (40181, axb23), (40170, axb14), (40185, axb24), (40183, axb16), (234471, axb31), (234460, axb26), (162974, axb30), (162788, .cells [(.int .i64 0), (.int .i64 0)] 247 2), (162955, .cells [(.int .i64 0), (.int .i64 1)] 247 2), (234497, axb83), (300647, .cells [(.int .i64 (-16))] 3 1), (300659, .cells [(.int .i64 0)] 3 1), (300672, .cells [(.int .i64 45)] 3 1), (333799, axb152), (327722, axb153)]
  v := (.bool true)
  post := [(194069, axb172), (39225, axb4), (39484, axb5), (40179, axb12), (40181, axb23), (40170, axb14), (40185, axb24), (40183, axb16), (234471, axb31), (234460, axb26), (162974, axb30), (162788, .cells [(.int .i64 0), (.int .i64 0)] 247 2), (162955, .cells [(.int .i64 0), (.int .i64 1)] 247 2), (234497, axb83), (300647, .cells [(.int .i64 (-16))] 3 1), (300659, .cells [(.int .i64 0)] 3 1), (300672, .cells [(.int .i64 45)] 3 1), (334137, axb152), (327722, axb153)]
  n2 := 334393
  frame := [40189, 5289, 5548, 6243, 6245, 6234, 6249, 6247]
def axk188_h : Hook := (fun _ _ _ _ => none)
def axb173 : EBlk := .cells [(.slice none 0 0), (.slice none 0 0), (.slice (some ⟨39225, 0, none⟩) 2 FULL), (.slice (some ⟨39484, 0, none⟩) 1 FULL), (.slice (some ⟨40179, 0, none⟩) 1 1), (.slice (some ⟨40181, 0, none⟩) 1 1), (.slice (some ⟨40185, 0, none⟩) 1 1), (.slice none 0 0), (.slice (some ⟨234471, 0, none⟩) 1 FULL), (.slice (some ⟨162974, 0, none⟩) 2 FULL), (.slice (some ⟨162974, 0, none⟩) 2 FULL), (.slice (some ⟨234497, 0, none⟩) 1 FULL), (.slice (some ⟨334475, 0, none⟩) 1 FULL), (.slice none 0 0), (.int .i64 166), (.slice (some ⟨327722, 0, none⟩) 5 FULL), (.bool false), (.slice none 0 0), (.slice none 0 0)] 125 1
/-- (*railplan/railplanref39.Traffic).second -/
def axk189 : Cut where
  f := 47
  n := 334427
  args := [(.pointer (some ⟨194069, 0, none⟩))]
  pre := [(194069, axb172), (39225, axb4), (39484, axb5), (40179, axb12), (40181, axb23), (40170, axb14), (40185, axb24), (40183, axb16), (234471, axb31), (234460, axb26), (162974, axb30), (162788, .cells [(.int .i64 0), (.int .i64 0)] 247 2), (162955, .cells [(.int .i64 0), (.int .i64 1)] 247 2), (234497, axb83), (300647, .cells [(.int .i64 (-16))] 3 1), (300659, .cells [(.int .i64 0)] 3 1), (300672, .cells [(.int .i64 45)] 3 1), (334137, axb152), (327722, axb153)]
  v := (.bool true)
  post := [(194069, axb173), (39225, axb4), (39484, axb5), (40179, axb12), (40181, axb23), (40170, axb14), (40185, axb24), (40183, axb16), (234471, axb31), (234460, axb26), (162974, axb30), (162788, .cells [(.int .i64 0), (.int .i64 0)] 247 2), (162955, .cells [(.int .i64 0), (.int .i64 1)] 247 2), (234497, axb83), (300647, .cells [(.int .i64 (-16))] 3 1), (300659, .cells [(.int .i64 0)] 3 1), (300672, .cells [(.int .i64 45)] 3 1), (334475, axb152), (327722, axb153)]
  n2 := 334731
  frame := [40189, 5289, 5548, 6243, 6245, 6234, 6249, 6247]
def axk189_h : Hook := (fun _ _ _ _ => none)
def axb174 : EBlk := .cells [(.slice none 0 0), (.slice none 0 0), (.slice (some ⟨39225, 0, none⟩) 2 FULL), (.slice (some ⟨39484, 0, none⟩) 1 FULL), (.slice (some ⟨40179, 0, none⟩) 1 1), (.slice (some ⟨40181, 0, none⟩) 1 1), (.slice (some ⟨40185, 0, none⟩) 1 1), (.slice none 0 0), (.slice (some ⟨234471, 0, none⟩) 1 FULL), (.slice (some ⟨162974, 0, none⟩) 2 FULL), (.slice (some ⟨162974, 0, none⟩) 2 FULL), (.slice (some ⟨234497, 0, none⟩) 1 FULL), (.slice (some ⟨334813, 0, none⟩) 1 FULL), (.slice none 0 0), (.int .i64 167), (.slice (some ⟨327722, 0, none⟩) 5 FULL), (.bool false), (.slice none 0 0), (.slice none 0 0)] 125 1
/-- (*railplan/railplanref39.Traffic).second -/
def axk190 : Cut where
  f := 47
  n := 334765
  args := [(.pointer (some ⟨194069, 0, none⟩))]
  pre := [(194069, axb173), (39225, axb4), (39484, axb5), (40179, axb12), (40181, axb23), (40170, axb14), (40185, axb24), (40183, axb16), (234471, axb31), (234460, axb26), (162974, axb30), (162788, .cells [(.int .i64 0), (.int .i64 0)] 247 2), (162955, .cells [(.int .i64 0), (.int .i64 1)] 247 2), (234497, axb83), (300647, .cells [(.int .i64 (-16))] 3 1), (300659, .cells [(.int .i64 0)] 3 1), (300672, .cells [(.int .i64 45)] 3 1), (334475, axb152), (327722, axb153)]
  v := (.bool true)
  post := [(194069, axb174), (39225, axb4), (39484, axb5), (40179, axb12), (40181, axb23), (40170, axb14), (40185, axb24), (40183, axb16), (234471, axb31), (234460, axb26), (162974, axb30), (162788, .cells [(.int .i64 0), (.int .i64 0)] 247 2), (162955, .cells [(.int .i64 0), (.int .i64 1)] 247 2), (234497, axb83), (300647, .cells [(.int .i64 (-16))] 3 1), (300659, .cells [(.int .i64 0)] 3 1), (300672, .cells [(.int .i64 45)] 3 1), (334813, axb152), (327722, axb153)]
  n2 := 335069
  frame := [40189, 5289, 5548, 6243, 6245, 6234, 6249, 6247]
def axk190_h : Hook := (fun _ _ _ _ => none)
def axb175 : EBlk := .cells [(.slice none 0 0), (.slice none 0 0), (.slice (some ⟨39225, 0, none⟩) 2 FULL), (.slice (some ⟨39484, 0, none⟩) 1 FULL), (.slice (some ⟨40179, 0, none⟩) 1 1), (.slice (some ⟨40181, 0, none⟩) 1 1), (.slice (some ⟨40185, 0, none⟩) 1 1), (.slice none 0 0), (.slice (some ⟨234471, 0, none⟩) 1 FULL), (.slice (some ⟨162974, 0, none⟩) 2 FULL), (.slice (some ⟨162974, 0, none⟩) 2 FULL), (.slice (some ⟨234497, 0, none⟩) 1 FULL), (.slice (some ⟨335151, 0, none⟩) 1 FULL), (.slice none 0 0), (.int .i64 168), (.slice (some ⟨327722, 0, none⟩) 5 FULL), (.bool false), (.slice none 0 0), (.slice none 0 0)] 125 1
/-- (*railplan/railplanref39.Traffic).second -/
def axk191 : Cut where
  f := 47
  n := 335103
  args := [(.pointer (some ⟨194069, 0, none⟩))]
  pre := [(194069, axb174), (39225, axb4), (39484, axb5), (40179, axb12), (40181, axb23), (40170, axb14), (40185, axb24), (40183, axb16), (234471, axb31), (234460, axb26), (162974, axb30), (162788, .cells [(.int .i64 0), (.int .i64 0)] 247 2), (162955, .cells [(.int .i64 0), (.int .i64 1)] 247 2), (234497, axb83), (300647, .cells [(.int .i64 (-16))] 3 1), (300659, .cells [(.int .i64 0)] 3 1), (300672, .cells [(.int .i64 45)] 3 1), (334813, axb152), (327722, axb153)]
  v := (.bool true)
  post := [(194069, axb175), (39225, axb4), (39484, axb5), (40179, axb12), (40181, axb23), (40170, axb14), (40185, axb24), (40183, axb16), (234471, axb31), (234460, axb26), (162974, axb30), (162788, .cells [(.int .i64 0), (.int .i64 0)] 247 2), (162955, .cells [(.int .i64 0), (.int .i64 1)] 247 2), (234497, axb83), (300647, .cells [(.int .i64 (-16))] 3 1), (300659, .cells [(.int .i64 0)] 3 1), (300672, .cells [(.int .i64 45)] 3 1), (335151, axb152), (327722, axb153)]
  n2 := 335407
  frame := [40189, 5289, 5548, 6243, 6245, 6234, 6249, 6247]
def axk191_h : Hook := (fun _ _ _ _ => none)
def axb176 : EBlk := .cells [(.slice none 0 0), (.slice none 0 0), (.slice (some ⟨39225, 0, none⟩) 2 FULL), (.slice (some ⟨39484, 0, none⟩) 1 FULL), (.slice (some ⟨40179, 0, none⟩) 1 1), (.slice (some ⟨40181, 0, none⟩) 1 1), (.slice (some ⟨40185, 0, none⟩) 1 1), (.slice none 0 0), (.slice (some ⟨234471, 0, none⟩) 1 FULL), (.slice (some ⟨162974, 0, none⟩) 2 FULL), (.slice (some ⟨162974, 0, none⟩) 2 FULL), (.slice (some ⟨234497, 0, none⟩) 1 FULL), (.slice (some ⟨335489, 0, none⟩) 1 FULL), (.slice none 0 0), (.int .i64 169), (.slice (some ⟨327722, 0, none⟩) 5 FULL), (.bool false), (.slice none 0 0), (.slice none 0 0)] 125 1
/-- (*railplan/railplanref39.Traffic).second -/
def axk192 : Cut where
  f := 47
  n := 335441
  args := [(.pointer (some ⟨194069, 0, none⟩))]
  pre := [(194069, axb175), (39225, axb4), (39484, axb5), (40179, axb12), (40181, axb23), (40170, axb14), (40185, axb24), (40183, axb16), (234471, axb31), (234460, axb26), (162974, axb30), (162788, .cells [(.int .i64 0), (.int .i64 0)] 247 2), (162955, .cells [(.int .i64 0), (.int .i64 1)] 247 2), (234497, axb83), (300647, .cells [(.int .i64 (-16))] 3 1), (300659, .cells [(.int .i64 0)] 3 1), (300672, .cells [(.int .i64 45)] 3 1), (335151, axb152), (327722, axb153)]
  v := (.bool true)
  post := [(194069, axb176), (39225, axb4), (39484, axb5), (40179, axb12), (40181, axb23), (40170, axb14), (40185, axb24), (40183, axb16), (234471, axb31), (234460, axb26), (162974, axb30), (162788, .cells [(.int .i64 0), (.int .i64 0)] 247 2), (162955, .cells [(.int .i64 0), (.int .i64 1)] 247 2), (234497, axb83), (300647, .cells [(.int .i64 (-16))] 3 1), (300659, .cells [(.int .i64 0)] 3 1), (300672, .cells [(.int .i64 45)] 3 1), (335489, axb152), (327722, axb153)]
  n2 := 335745
  frame := [40189, 5289, 5548, 6243, 6245, 6234, 6249, 6247]
def axk192_h : Hook := (fun _ _ _ _ => none)
def axb177 : EBlk := .cells [(.slice none 0 0), (.slice none 0 0), (.slice (some ⟨39225, 0, none⟩) 2 FULL), (.slice (some ⟨39484, 0, none⟩) 1 FULL), (.slice (some ⟨40179, 0, none⟩) 1 1), (.slice (some ⟨40181, 0, none⟩) 1 1), (.slice (some ⟨40185, 0, none⟩) 1 1), (.slice none 0 0), (.slice (some ⟨234471, 0, none⟩) 1 FULL), (.slice (some ⟨162974, 0, none⟩) 2 FULL), (.slice (some ⟨162974, 0, none⟩) 2 FULL), (.slice (some ⟨234497, 0, none⟩) 1 FULL), (.slice (some ⟨335827, 0, none⟩) 1 FULL), (.slice none 0 0), (.int .i64 170), (.slice (some ⟨327722, 0, none⟩) 5 FULL), (.bool false), (.slice none 0 0), (.slice none 0 0)] 125 1
/-- (*railplan/railplanref39.Traffic).second -/
def axk193 : Cut where
  f := 47
  n := 335779
  args := [(.pointer (some ⟨194069, 0, none⟩))]
  pre := [(194069, axb176), (39225, axb4), (39484, axb5), (40179, axb12), (40181, axb23), (40170, axb14), (40185, axb24), (40183, axb16), (234471, axb31), (234460, axb26), (162974, axb30), (162788, .cells [(.int .i64 0), (.int .i64 0)] 247 2), (162955, .cells [(.int .i64 0), (.int .i64 1)] 247 2), (234497, axb83), (300647, .cells [(.int .i64 (-16))] 3 1), (300659, .cells [(.int .i64 0)] 3 1), (300672, .cells [(.int .i64 45)] 3 1), (335489, axb152), (327722, axb153)]
  v := (.bool true)
  post := [(194069, axb177), (39225, axb4), (39484, axb5), (40179, axb12), (40181, axb23), (40170, axb14), (40185, axb24), (40183, axb16), (234471, axb31), (234460, axb26), (162974, axb30), (162788, .cells [(.int .i64 0), (.int .i64 0)] 247 2), (162955, .cells [(.int .i64 0), (.int .i64 1)] 247 2), (234497, axb83), (300647, .cells [(.int .i64 (-16))] 3 1), (300659, .cells [(.int .i64 0)] 3 1), (300672, .cells [(.int .i64 45)] 3 1), (335827, axb152), (327722, axb153)]
  n2 := 336083
  frame := [40189, 5289, 5548, 6243, 6245, 6234, 6249, 6247]
def axk193_h : Hook := (fun _ _ _ _ => none)
def axb178 : EBlk := .cells [(.slice none 0 0), (.slice none 0 0), (.slice (some ⟨39225, 0, none⟩) 2 FULL), (.slice (some ⟨39484, 0, none⟩) 1 FULL), (.slice (some ⟨40179, 0, none⟩) 1 1), (.slice (some ⟨40181, 0, none⟩) 1 1), (.slice (some ⟨40185, 0, none⟩) 1 1), (.slice none 0 0), (.slice (some ⟨234471, 0, none⟩) 1 FULL), (.slice (some ⟨162974, 0, none⟩) 2 FULL), (.slice (some ⟨162974, 0, none⟩) 2 FULL), (.slice (some ⟨234497, 0, none⟩) 1 FULL), (.slice (some ⟨336165, 0, none⟩) 1 FULL), (.slice none 0 0), (.int .i64 171), (.slice (some ⟨327722, 0, none⟩) 5 FULL), (.bool false), (.slice none 0 0), (.slice none 0 0)] 125 1
/-- (*railplan/railplanref39.Traffic).second -/
def axk194 : Cut where
  f := 47
  n := 336117
  args := [(.pointer (some ⟨194069, 0, none⟩))]
  pre := [(194069, axb177), (39225, axb4), (39484, axb5), (40179, axb12), (40181, axb23), (40170, axb14), (40185, axb24), (40183, axb16), (234471, axb31), (234460, axb26), (162974, axb30), (162788, .cells [(.int .i64 0), (.int .i64 0)] 247 2), (162955, .cells [(.int .i64 0), (.int .i64 1)] 247 2), (234497, axb83), (300647, .cells [(.int .i64 (-16))] 3 1), (300659, .cells [(.int .i64 0)] 3 1), (300672, .cells [(.int .i64 45)] 3 1), (335827, axb152), (327722, axb153)]
  v := (.bool true)
  post := [(194069, axb178), (39225, axb4), (39484, axb5), (40179, axb12), (40181, axb23), (40170, axb14), (40185, axb24), (40183, axb16), (234471, axb31), (234460, axb26), (162974, axb30), (162788, .cells [(.int .i64 0), (.int .i64 0)] 247 2), (162955, .cells [(.int .i64 0), (.int .i64 1)] 247 2), (234497, axb83), (300647, .cells [(.int .i64 (-16))] 3 1), (300659, .cells [(.int .i64 0)] 3 1), (300672, .cells [(.int .i64 45)] 3 1), (336165, axb152), (327722, axb153)]
  n2 := 336421
  frame := [40189, 5289, 5548, 6243, 6245, 6234, 6249, 6247]
def axk194_h : Hook := (fun _ _ _ _ => none)
def axb179 : EBlk := .cells [(.slice none 0 0), (.slice none 0 0), (.slice (some ⟨39225, 0, none⟩) 2 FULL), (.slice (some ⟨39484, 0, none⟩) 1 FULL), (.slice (some ⟨40179, 0, none⟩) 1 1), (.slice (some ⟨40181, 0, none⟩) 1 1), (.slice (some ⟨40185, 0, none⟩) 1 1), (.slice none 0 0), (.slice (some ⟨234471, 0, none⟩) 1 FULL), (.slice (some ⟨162974, 0, none⟩) 2 FULL), (.slice (some ⟨162974, 0, none⟩) 2 FULL), (.slice (some ⟨234497, 0, none⟩) 1 FULL), (.slice (some ⟨336503, 0, none⟩) 1 FULL), (.slice none 0 0), (.int .i64 172), (.slice (some ⟨327722, 0, none⟩) 5 FULL), (.bool false), (.slice none 0 0), (.slice none 0 0)] 125 1
/-- (*railplan/railplanref39.Traffic).second -/
def axk195 : Cut where
  f := 47
  n := 336455
  args := [(.pointer (some ⟨194069, 0, none⟩))]
  pre := [(194069, axb178), (39225, axb4), (39484, axb5), (40179, axb12), (40181, axb23), (40170, axb14), (40185, axb24), (40183, axb16), (234471, axb31), (234460, axb26), (162974, axb30), (162788, .cells [(.int .i64 0), (.int .i64 0)] 247 2), (162955, .cells [(.int .i64 0), (.int .i64 1)] 247 2), (234497, axb83), (300647, .cells [(.int .i64 (-16))] 3 1), (300659, .cells [(.int .i64 0)] 3 1), (300672, .cells [(.int .i64 45)] 3 1), (336165, axb152), (327722, axb153)]
  v := (.bool true)
  post := [(194069, axb179), (39225, axb4), (39484, axb5), (40179, axb12), (40181, axb23), (40170, axb14), (40185, axb24), (40183, axb16), (234471, axb31), (234460, axb26), (162974, axb30), (162788, .cells [(.int .i64 0), (.int .i64 0)] 247 2), (162955, .cells [(.int .i64 0), (.int .i64 1)] 247 2), (234497, axb83), (300647, .cells [(.int .i64 (-16))] 3 1), (300659, .cells [(.int .i64 0)] 3 1), (300672, .cells [(.int .i64 45)] 3 1), (336503, axb152), (327722, axb153)]
  n2 := 336759
  frame := [40189, 5289, 5548, 6243, 6245, 6234, 6249, 6247]
def axk195_h : Hook := (fun _ _ _ _ => none)
def axb180 : EBlk := .cells [(.slice none 0 0), (.slice none 0 0), (.slice (some ⟨39225, 0, none⟩) 2 FULL), (.slice (some ⟨39484, 0, none⟩) 1 FULL), (.slice (some ⟨40179, 0, none⟩) 1 1), (.slice (some ⟨40181, 0, none⟩) 1 1), (.slice (some ⟨40185, 0, none⟩) 1 1), (.slice none 0 0), (.slice (some ⟨234471, 0, none⟩) 1 FULL), (.slice (some ⟨162974, 0, none⟩) 2 FULL), (.slice (some ⟨162974, 0, none⟩) 2 FULL), (.slice (some ⟨234497, 0, none⟩) 1 FULL), (.slice (some ⟨336841, 0, none⟩) 1 FULL), (.slice none 0 0), (.int .i64 173), (.slice (some ⟨327722, 0, none⟩) 5 FULL), (.bool false), (.slice none 0 0), (.slice none 0 0)] 125 1
/-- (*railplan/railplanref39.Traffic).second -/
def axk196 : Cut where
  f := 47
  n := 336793
  args := [(.pointer (some ⟨194069, 0, none⟩))]
  pre := [(194069, axb179), (39225, axb4), (39484, axb5), (40179, axb12), (40181, axb23), (40170, axb14), (40185, axb24), (40183, axb16), (234471, axb31), (234460, axb26), (162974, axb30), (162788, .cells [(.int .i64 0), (.int .i64 0)] 247 2), (162955, .cells [(.int .i64 0), (.int .i64 1)] 247 2), (234497, axb83), (300647, .cells [(.int .i64 (-16))] 3 1), (300659, .cells [(.int .i64 0)] 3 1), (300672, .cells [(.int .i64 45)] 3 1), (336503, axb152), (327722, axb153)]
  v := (.bool true)
  post := [(194069, axb180), (39225, axb4), (39484, axb5), (40179, axb12), (40181, axb23), (40170, axb14), (40185, axb24), (40183, axb16), (234471, axb31), (234460, axb26), (162974, axb30), (162788, .cells [(.int .i64 0), (.int .i64 0)] 247 2), (162955, .cells [(.int .i64 0), (.int .i64 1)] 247 2), (234497, axb83), (300647, .cells [(.int .i64 (-16))] 3 1), (300659, .cells [(.int .i64 0)] 3 1), (300672, .cells [(.int .i64 45)] 3 1), (336841, axb152), (327722, axb153)]
  n2 := 337097
  frame := [40189, 5289, 5548, 6243, 6245, 6234, 6249, 6247]
def axk196_h : Hook := (fun _ _ _ _ => none)
def axb181 : EBlk := .cells [(.slice none 0 0), (.slice none 0 0), (.slice (some ⟨39225, 0, none⟩) 2 FULL), (.slice (some ⟨39484, 0, none⟩) 1 FULL), (.slice (some ⟨40179, 0, none⟩) 1 1), (.slice (some ⟨40181, 0, none⟩) 1 1), (.slice (some ⟨40185, 0, none⟩) 1 1), (.slice none 0 0), (.slice (some ⟨234471, 0, none⟩) 1 FULL), (.slice (some ⟨162974, 0, none⟩) 2 FULL), (.slice (some ⟨162974, 0, none⟩) 2 FULL), (.slice (some ⟨234497, 0, none⟩) 1 FULL), (.slice (some ⟨337179, 0, none⟩) 1 FULL), (.slice none 0 0), (.int .i64 174), (.slice (some ⟨327722, 0, none⟩) 5 FULL), (.bool false), (.slice none 0 0), (.slice none 0 0)] 125 1
/-- (*railplan/railplanref39.Traffic).second -/
def axk197 : Cut where
  f := 47
  n := 337131
  args := [(.pointer (some ⟨194069, 0, none⟩))]
  pre := [(194069, axb180), (39225, axb4), (39484, axb5), (40179, axb12), (40181, axb23), (40170, axb14), (40185, axb24), (40183, axb16), (234471, axb31), (234460, axb26), (162974, axb30), (162788, .cells [(.int .i64 0), (.int .i64 0)] 247 2), (162955, .cells [(.int .i64 0), (.int .i64 1)] 247 2), (234497, axb83), (300647, .cells [(.int .i64 (-16))] 3 1), (300659, .cells [(.int .i64 0)] 3 1), (300672, .cells [(.int .i64 45)] 3 1), (336841, axb152), (327722, axb153)]
  v := (.bool true)
  post := [(194069, axb181), (39225, axb4), (39484, axb5), (40179, axb12), (40181, axb23), (40170, axb14), (40185, axb24), (40183, axb16), (234471, axb31), (234460, axb26), (162974, axb30), (162788, .cells [(.int .i64 0), (.int .i64 0)] 247 2), (162955, .cells [(.int .i64 0), (.int .i64 1)] 247 2), (234497, axb83), (300647, .cells [(.int .i64 (-16))] 3 1), (300659, .cells [(.int .i64 0)] 3 1), (300672, .cells [(.int .i64 45)] 3 1), (337179, axb152), (327722, axb153)]
  n2 := 337435
  frame := [40189, 5289, 5548, 6243, 6245, 6234, 6249, 6247]
def axk197_h : Hook := (fun _ _ _ _ => none)
def axb182 : EBlk := .cells [(.slice none 0 0), (.slice none 0 0), (.slice (some ⟨39225, 0, none⟩) 2 FULL), (.slice (some ⟨39484, 0, none⟩) 1 FULL), (.slice (some ⟨40179, 0, none⟩) 1 1), (.slice (some ⟨40181, 0, none⟩) 1 1), (.slice (some ⟨40185, 0, none⟩) 1 1), (.slice none 0 0), (.slice (some ⟨234471, 0, none⟩) 1 FULL), (.slice (some ⟨162974, 0, none⟩) 2 FULL), (.slice (some ⟨162974, 0, none⟩) 2 FULL), (.slice (some ⟨234497, 0, none⟩) 1 FULL), (.slice (some ⟨337517, 0, none⟩) 1 FULL), (.slice none 0 0), (.int .i64 175), (.slice (some ⟨327722, 0, none⟩) 5 FULL), (.bool false), (.slice none 0 0), (.slice none 0 0)] 125 1
/-- (*railplan/railplanref39.Traffic).second -/
def axk198 : Cut where
  f := 47
  n := 337469
  args := [(.pointer (some ⟨194069, 0, none⟩))]
  pre := [(194069, axb181), (39225, axb4), (39484, axb5), (40179, axb12), (40181, axb23), (40170, axb14), (40185, axb24), (40183, axb16), (234471, axb31), (234460, axb26), (162974, axb30), (162788, .cells [(.int .i64 0), (.int .i64 0)] 247 2), (162955, .cells [(.int .i64 0), (.int .i64 1)] 247 2), (234497, axb83), (300647, .cells [(.int .i64 (-16))] 3 1), (300659, .cells [(.int .i64 0)] 3 1), (300672, .cells [(.int .i64 45)] 3 1), (337179, axb152), (327722, axb153)]
  v := (.bool true)
  post := [(194069, axb182), (39225, axb4), (39484, axb5), (40179, axb12), (40181, axb23), (40170, axb14), (40185, axb24), (40183, axb16), (234471, axb31), (234460, axb26), (162974, axb30), (162788, .cells [(.int .i64 0), (.int .i64 0)] 247 2), (162955, .cells [(.int .i64 0), (.int .i64 1)] 247 2), (234497, axb83), (300647, .cells [(.int .i64 (-16))] 3 1), (300659, .cells [(.int .i64 0)] 3 1), (300672, .cells [(.int .i64 45)] 3 1), (337517, axb152), (327722, axb153)]
  n2 := 337773
  frame := [40189, 5289, 5548, 6243, 6245, 6234, 6249, 6247]
def axk198_h : Hook := (fun _ _ _ _ => none)
def axb183 : EBlk := .cells [(.slice none 0 0), (.slice none 0 0), (.slice (some ⟨39225, 0, none⟩) 2 FULL), (.slice (some ⟨39484, 0, none⟩) 1 FULL), (.slice (some ⟨40179, 0, none⟩) 1 1), (.slice (some ⟨40181, 0, none⟩) 1 1), (.slice (some ⟨40185, 0, none⟩) 1 1), (.slice none 0 0), (.slice (some ⟨234471, 0, none⟩) 1 FULL), (.slice (some ⟨162974, 0, none⟩) 2 FULL), (.slice (some ⟨162974, 0, none⟩) 2 FULL), (.slice (some ⟨234497, 0, none⟩) 1 FULL), (.slice (some ⟨337855, 0, none⟩) 1 FULL), (.slice none 0 0), (.int .i64 176), (.slice (some ⟨327722, 0, none⟩) 5 FULL), (.bool false), (.slice none 0 0), (.slice none 0 0)] 125 1
/-- (*railplan/railplanref39.Traffic).second -/
def axk199 : Cut where
  f := 47
  n := 337807
  args := [(.pointer (some ⟨194069, 0, none⟩))]
  pre := [(194069, axb182), (39225, axb4), (39484, axb5), (40179, axb12), (40181, axb23), (40170, axb14), (40185, axb24), (40183, axb16), (234471, axb31), (234460, axb26), (162974, axb30), (162788, .cells [(.int .i64 0), (.int .i64 0)] 247 2), (162955, .cells [(.int .i64 0), (.int .i64 1)] 247 2), (234497, axb83), (300647, .cells [(.int .i64 (-16))] 3 1), (300659, .cells [(.int .i64 0)] 3 1), (300672, .cells [(.int .i64 45)] 3 1), (337517, axb152), (327722, axb153)]
  v := (.bool true)
  post := [(194069, axb183), (39225, axb4), (39484, axb5), (40179, axb12), (40181, axb23), (40170, axb14), (40185, axb24), (40183, axb16), (234471, axb31), (234460, axb26), (162974, axb30), (162788, .cells [(.int .i64 0), (.int .i64 0)] 247 2), (162955, .cells [(.int .i64 0), (.int .i64 1)] 247 2), (234497, axb83), (300647, .cells [(.int .i64 (-16))] 3 1), (300659, .cells [(.int .i64 0)] 3 1), (300672, .cells [(.int .i64 45)] 3 1), (337855, axb152), (327722, axb153)]
  n2 := 338111
  frame := [40189, 5289, 5548, 6243, 6245, 6234, 6249, 6247]
def axk199_h : Hook := (fun _ _ _ _ => none)
def axb184 : EBlk := .cells [(.slice none 0 0), (.slice none 0 0), (.slice (some ⟨39225, 0, none⟩) 2 FULL), (.slice (some ⟨39484, 0, none⟩) 1 FULL), (.slice (some ⟨40179, 0, none⟩) 1 1), (.slice (some ⟨40181, 0, none⟩) 1 1), (.slice (some ⟨40185, 0, none⟩) 1 1), (.slice none 0 0), (.slice (some ⟨234471, 0, none⟩) 1 FULL), (.slice (some ⟨162974, 0, none⟩) 2 FULL), (.slice (some ⟨162974, 0, none⟩) 2 FULL), (.slice (some ⟨234497, 0, none⟩) 1 FULL), (.slice (some ⟨338193, 0, none⟩) 1 FULL), (.slice none 0 0), (.int .i64 177), (.slice (some ⟨327722, 0, none⟩) 5 FULL), (.bool false), (.slice none 0 0), (.slice none 0 0)] 125 1
/-- (*railplan/railplanref39.Traffic).second -/
def axk200 : Cut where
  f := 47
  n := 338145
  args := [(.pointer (some ⟨194069, 0, none⟩))]
  pre := [(194069, axb183), (39225, axb4), (39484, axb5), (40179, axb12), (40181, axb23), (40170, axb14), (40185, axb24), (40183, axb16), (234471, axb31), (234460, axb26), (162974, axb30), (162788, .cells [(.int .i64 0), (.int .i64 0)] 247 2), (162955, .cells [(.int .i64 0), (.int .i64 1)] 247 2), (234497, axb83), (300647, .cells [(.int .i64 (-16))] 3 1), (300659, .cells [(.int .i64 0)] 3 1), (300672, .cells [(.int .i64 45)] 3 1), (337855, axb152), (327722, axb153)]
  v := (.bool true)
  post := [(194069, axb184), (39225, axb4), (39484, axb5), (40179, axb12), (40181, axb23), (40170, axb14), (40185, axb24), (40183, axb16), (234471, axb31), (234460, axb26), (162974, axb30), (162788, .cells [(.int .i64 0), (.int .i64 0)] 247 2), (162955, .cells [(.int .i64 0), (.int .i64 1)] 247 2), (234497, axb83), (300647, .cells [(.int .i64 (-16))] 3 1), (300659, .cells [(.int .i64 0)] 3 1), (300672, .cells [(.int .i64 45)] 3 1), (338193, axb152), (327722, axb153)]
  n2 := 338449
  frame := [40189, 5289, 5548, 6243, 6245, 6234, 6249, 6247]
def axk200_h : Hook := (fun _ _ _ _ => none)
def axb185 : EBlk := .cells [(.slice none 0 0), (.slice none 0 0), (.slice (some ⟨39225, 0, none⟩) 2 FULL), (.slice (some ⟨39484, 0, none⟩) 1 FULL), (.slice (some ⟨40179, 0, none⟩) 1 1), (.slice (some ⟨40181, 0, none⟩) 1 1), (.slice (some ⟨40185, 0, none⟩) 1 1), (.slice none 0 0), (.slice (some ⟨234471, 0, none⟩) 1 FULL), (.slice (some ⟨162974, 0, none⟩) 2 FULL), (.slice (some ⟨162974, 0, none⟩) 2 FULL), (.slice (some ⟨234497, 0, none⟩) 1 FULL), (.slice (some ⟨338531, 0, none⟩) 1 FULL), (.slice none 0 0), (.int .i64 178), (.slice (some ⟨327722, 0, none⟩) 5 FULL), (.bool false), (.slice none 0 0), (.slice none 0 0)] 125 1
/-- (*railplan/railplanref39.Traffic).second -/
def axk201 : Cut where
  f := 47
  n := 338483
  args := [(.pointer (some ⟨194069, 0, none⟩))]
  pre := [(194069, axb184), (39225, axb4), (39484, axb5), (40179, axb12), (40181, axb23), (40170, axb14), (40185, axb24), (40183, axb16), (234471, axb31), (234460, axb26), (162974, axb30), (162788, .cells [(.int .i64 0), (.int .i64 0)] 247 2), (162955, .cells [(.int .i64 0), (.int .i64 1)] 247 2), (234497, axb83), (300647, .cells [(.int .i64 (-16))] 3 1), (300659, .cells [(.int .i64 0)] 3 1), (300672, .cells [(.int .i64 45)] 3 1), (338193, axb152), (327722, axb153)]
  v := (.bool true)
  post := [(194069, axb185), (39225, axb4), (39484, axb5), (40179, axb12), (40181, axb23), (40170, axb14), (40185, axb24), (40183, axb16), (234471, axb31), (234460, axb26), (162974, axb30), (162788, .cells [(.int .i64 0), (.int .i64 0)] 247 2), (162955, .cells [(.int .i64 0), (.int .i64 1)] 247 2), (234497, axb83), (300647, .cells [(.int .i64 (-16))] 3 1), (300659, .cells [(.int .i64 0)] 3 1), (300672, .cells [(.int .i64 45)] 3 1), (338531, axb152), (327722, axb153)]
  n2 := 338787
  frame := [40189, 5289, 5548, 6243, 6245, 6234, 6249, 6247]
def axk201_h : Hook := (fun _ _ _ _ => none)
def axb186 : EBlk := .cells [(.slice none 0 0), (.slice none 0 0), (.slice (some ⟨39225, 0, none⟩) 2 FULL), (.slice (some ⟨39484, 0, none⟩) 1 FULL), (.slice (some ⟨40179, 0, none⟩) 1 1), (.slice (some ⟨40181, 0, none⟩) 1 1), (.slice (some ⟨40185, 0, none⟩) 1 1), (.slice none 0 0), (.slice (some ⟨234471, 0, none⟩) 1 FULL), (.slice (some ⟨162974, 0, none⟩) 2 FULL), (.slice (some ⟨162974, 0, none⟩) 2 FULL), (.slice (some ⟨234497, 0, none⟩) 1 FULL), (.slice (some ⟨338869, 0, none⟩) 1 FULL), (.slice none 0 0), (.int .i64 179), (.slice (some ⟨327722, 0, none⟩) 5 FULL), (.bool false), (.slice none 0 0), (.slice none 0 0)] 125 1
/-- (*railplan/railplanref39.Traffic).second -/
def axk202 : Cut where
  f := 47
  n := 338821
  args := [(.pointer (some ⟨194069, 0, none⟩))]
  pre := [(194069, axb185), (39225, axb4), (39484, axb5), (40179, axb12), (40181, axb23), (40170, axb14), (40185, axb24), (40183, axb16), (234471, axb31), (234460, axb26), (162974, axb30), (162788, .cells [(.int .i64 0), (.int .i64 0)] 247 2), (162955, .cells [(.int .i64 0), (.int .i64 1)] 247 2), (234497, axb83), (300647, .cells [(.int .i64 (-16))] 3 1), (300659, .cells [(.int .i64 0)] 3 1), (300672, .cells [(.int .i64 45)] 3 1), (338531, axb152), (327722, axb153)]
  v := (.bool true)
  post := [(194069, axb186), (39225, axb4), (39484, axb5), (40179, axb12), (40181, axb23), (40170, axb14), (40185, axb24), (40183, axb16), (234471, axb31), (234460, axb26), (162974, axb30), (162788, .cells [(.int .i64 0), (.int .i64 0)] 247 2), (162955, .cells [(.int .i64 0), (.int .i64 1)] 247 2), (234497, axb83), (300647, .cells [(.int .i64 (-16))] 3 1), (300659, .cells [(.int .i64 0)] 3 1), (300672, .cells [(.int .i64 45)] 3 1), (338869, axb152), (327722, axb153)]
  n2 := 339125
  frame := [40189, 5289, 5548, 6243, 6245, 6234, 6249, 6247]
def axk202_h : Hook := (fun _ _ _ _ => none)
def axb187 : EBlk := .cells [(.slice none 0 0), (.slice none 0 0), (.slice (some ⟨39225, 0, none⟩) 2 FULL), (.slice (some ⟨39484, 0, none⟩) 1 FULL), (.slice (some ⟨40179, 0, none⟩) 1 1), (.slice (some ⟨40181, 0, none⟩) 1 1), (.slice (some ⟨40185, 0, none⟩) 1 1), (.slice none 0 0), (.slice (some ⟨234471, 0, none⟩) 1 FULL), (.slice (some ⟨162974, 0, none⟩) 2 FULL), (.slice (some ⟨162974, 0, none⟩) 2 FULL), (.slice (some ⟨234497, 0, none⟩) 1 FULL), (.slice (some ⟨339207, 0, none⟩) 1 FULL), (.slice none 0 0), (.int .i64 180), (.slice (some ⟨327722, 0, none⟩) 5 FULL), (.bool false), (.slice none 0 0), (.slice none 0 0)] 125 1
/-- (*railplan/railplanref39.Traffic).second -/
def axk203 : Cut where
  f := 47
  n := 339159
  args := [(.pointer (some ⟨194069, 0, none⟩))]
  pre := [(194069, axb186), (39225, axb4), (39484, axb5), (40179, axb12), (40181, axb23), (40170, axb14), (40185, axb24), (40183, axb16), (234471, axb31), (234460, axb26), (162974, axb30), (162788, .cells [(.int .i64 0), (.int .i64 0)] 247 2), (162955, .cells [(.int .i64 0), (.int .i64 1)] 247 2), (234497, axb83), (300647, .cells [(.int .i64 (-16))] 3 1), (300659, .cells [(.int .i64 0)] 3 1), (300672, .cells [(.int .i64 45)] 3 1), (338869, axb152), (327722, axb153)]
  v := (.bool true)
  post := [(194069, axb187), (39225, axb4), (39484, axb5), (40179, axb12), (40181, axb23), (40170, axb14), (40185, axb24), (40183, axb16), (234471, axb31), (234460, axb26), (162974, axb30), (162788, .cells [(.int .i64 0), (.int .i64 0)] 247 2), (162955, .cells [(.int .i64 0), (.int .i64 1)] 247 2), (234497, axb83), (300647, .cells [(.int .i64 (-16))] 3 1), (300659, .cells [(.int .i64 0)] 3 1), (300672, .cells [(.int .i64 45)] 3 1), (339207, axb152), (327722, axb153)]
  n2 := 339463
  frame := [40189, 5289, 5548, 6243, 6245, 6234, 6249, 6247]
def axk203_h : Hook := (fun _ _ _ _ => none)
def axb188 : EBlk := .cells [(.slice none 0 0), (.slice none 0 0), (.slice (some ⟨39225, 0, none⟩) 2 FULL), (.slice (some ⟨39484, 0, none⟩) 1 FULL), (.slice (some ⟨40179, 0, none⟩) 1 1), (.slice (some ⟨40181, 0, none⟩) 1 1), (.slice (some ⟨40185, 0, none⟩) 1 1), (.slice none 0 0), (.slice (some ⟨234471, 0, none⟩) 1 FULL), (.slice (some ⟨162974, 0, none⟩) 2 FULL), (.slice (some ⟨162974, 0, none⟩) 2 FULL), (.slice (some ⟨234497, 0, none⟩) 1 FULL), (.slice (some ⟨339545, 0, none⟩) 1 FULL), (.slice none 0 0), (.int .i64 181), (.slice (some ⟨327722, 0, none⟩) 5 FULL), (.bool false), (.slice none 0 0), (.slice none 0 0)] 125 1
/-- (*railplan/railplanref39.Traffic).second -/
def axk204 : Cut where
  f := 47
  n := 339497
  args := [(.pointer (some ⟨194069, 0, none⟩))]
  pre := [(194069, axb187), (39225, axb4), (39484, axb5), (40179, axb12), (40181, axb23), (40170, axb14), (40185, axb24), (40183, axb16), (234471, axb31), (234460, axb26), (162974, axb30), (162788, .cells [(.int .i64 0), (.int .i64 0)] 247 2), (162955, .cells [(.int .i64 0), (.int .i64 1)] 247 2), (234497, axb83), (300647, .cells [(.int .i64 (-16))] 3 1), (300659, .cells [(.int .i64 0)] 3 1), (300672, .cells [(.int .i64 45)] 3 1), (339207, axb152), (327722, axb153)]
  v := (.bool true)
  post := [(194069, axb188), (39225, axb4), (39484, axb5), (40179, axb12), (40181, axb23), (40170, axb14), (40185, axb24), (40183, axb16), (234471, axb31), (234460, axb26), (162974, axb30), (162788, .cells [(.int .i64 0), (.int .i64 0)] 247 2), (162955, .cells [(.int .i64 0), (.int .i64 1)] 247 2), (234497, axb83), (300647, .cells [(.int .i64 (-16))] 3 1), (300659, .cells [(.int .i64 0)] 3 1), (300672, .cells [(.int .i64 45)] 3 1), (339545, axb152), (327722, axb153)]
  n2 := 339801
  frame := [40189, 5289, 5548, 6243, 6245, 6234, 6249, 6247]
def axk204_h : Hook := (fun _ _ _ _ => none)
def axb189 : EBlk := .cells [(.slice none 0 0), (.slice none 0 0), (.slice (some ⟨39225, 0, none⟩) 2 FULL), (.slice (some ⟨39484, 0, none⟩) 1 FULL), (.slice (some ⟨40179, 0, none⟩) 1 1), (.slice (some ⟨40181, 0, none⟩) 1 1), (.slice (some ⟨40185, 0, none⟩) 1 1), (.slice none 0 0), (.slice (some ⟨234471, 0, none⟩) 1 FULL), (.slice (some ⟨162974, 0, none⟩) 2 FULL), (.slice (some ⟨162974, 0, none⟩) 2 FULL), (.slice (some ⟨234497, 0, none⟩) 1 FULL), (.slice (some ⟨339883, 0, none⟩) 1 FULL), (.slice none 0 0), (.int .i64 182), (.slice (some ⟨327722, 0, none⟩) 5 FULL), (.bool false), (.slice none 0 0), (.slice none 0 0)] 125 1
/-- (*railplan/railplanref39.Traffic).second -/
def axk205 : Cut where
  f := 47
  n := 339835
  args := [(.pointer (some ⟨194069, 0, none⟩))]
  pre := [(194069, axb188), (39225, axb4), (39484, axb5), (40179, axb12), (40181, axb23), (40170, axb14), (40185, axb24), (40183, axb16), (234471, axb31), (234460, axb26), (162974, axb30), (162788, .cells [(.int .i64 0), (.int .i64 0)] 247 2), (162955, .cells [(.int .i64 0), (.int .i64 1)] 247 2), (234497, axb83), (300647, .cells [(.int .i64 (-16))] 3 1), (300659, .cells [(.int .i64 0)] 3 1), (300672, .cells [(.int .i64 45)] 3 1), (339545, axb152), (327722, axb153)]
  v := (.bool true)
  post := [(194069, axb189), (39225, axb4), (39484, axb5), (40179, axb12), (40181, axb23), (40170, axb14), (40185, axb24), (40183, axb16), (234471, axb31), (234460, axb26), (162974, axb30), (162788, .cells [(.int .i64 0), (.int .i64 0)] 247 2), (162955, .cells [(.int .i64 0), (.int .i64 1)] 247 2), (234497, axb83), (300647, .cells [(.int .i64 (-16))] 3 1), (300659, .cells [(.int .i64 0)] 3 1), (300672, .cells [(.int .i64 45)] 3 1), (339883, axb152), (327722, axb153)]
  n2 := 340139
  frame := [40189, 5289, 5548, 6243, 6245, 6234, 6249, 6247]
def axk205_h : Hook := (fun _ _ _ _ => none)
def axb190 : EBlk := .cells [(.slice none 0 0), (.slice none 0 0), (.slice (some ⟨39225, 0, none⟩) 2 FULL), (.slice (some ⟨39484, 0, none⟩) 1 FULL), (.slice (some ⟨40179, 0, none⟩) 1 1), (.slice (some ⟨40181, 0, none⟩) 1 1), (.slice (some ⟨40185, 0, none⟩) 1 1), (.slice none 0 0), (.slice (some ⟨234471, 0, none⟩) 1 FULL), (.slice (some ⟨162974, 0, none⟩) 2 FULL), (.slice (some ⟨162974, 0, none⟩) 2 FULL), (.slice (some ⟨234497, 0, none⟩) 1 FULL), (.slice (some ⟨340221, 0, none⟩) 1 FULL), (.slice none 0 0), (.int .i64 183), (.slice (some ⟨327722, 0, none⟩) 5 FULL), (.bool false), (.slice none 0 0), (.slice none 0 0)] 125 1
/-- (*railplan/railplanref39.Traffic).second -/
def axk206 : Cut where
  f := 47
  n := 340173
  args := [(.pointer (some ⟨194069, 0, none⟩))]
  pre := [(194069, axb189), (39225, axb4), (39484, axb5), (40179, axb12), (40181, axb23), (40170, axb14), (40185, axb24), (40183, axb16), (234471, axb31), (234460, axb26), (162974, axb30), (162788, .cells [(.int .i64 0), (.int .i64 0)] 247 2), (162955, .cells [(.int .i64 0), (.int .i64 1)] 247 2), (234497, axb83), (300647, .cells [(.int .i64 (-16))] 3 1), (300659, .cells [(.int .i64 0)] 3 1), (300672, .cells [(.int .i64 45)] 3 1), (339883, axb152), (327722, axb153)]
  v := (.bool true)
  post := [(194069, axb190), (39225, axb4), (39484, axb5), (40179, axb12), (40181, axb23), (40170, axb14), (40185, axb24), (40183, axb16), (234471, axb31), (234460, axb26), (162974, axb30), (162788, .cells [(.int .i64 0), (.int .i64 0)] 247 2), (162955, .cells [(.int .i64 0), (.int .i64 1)] 247 2), (234497, axb83), (300647, .cells [(.int .i64 (-16))] 3 1), (300659, .cells [(.int .i64 0)] 3 1), (300672, .cells [(.int .i64 45)] 3 1), (340221, axb152), (327722, axb153)]
  n2 := 340477
  frame := [40189, 5289, 5548, 6243, 6245, 6234, 6249, 6247]
def axk206_h : Hook := (fun _ _ _ _ => none)
def axb191 : EBlk := .cells [(.slice none 0 0), (.slice none 0 0), (.slice (some ⟨39225, 0, none⟩) 2 FULL), (.slice (some ⟨39484, 0, none⟩) 1 FULL), (.slice (some ⟨40179, 0, none⟩) 1 1), (.slice (some ⟨40181, 0, none⟩) 1 1), (.slice (some ⟨40185, 0, none⟩) 1 1), (.slice none 0 0), (.slice (some ⟨234471, 0, none⟩) 1 FULL), (.slice (some ⟨162974, 0, none⟩) 2 FULL), (.slice (some ⟨162974, 0, none⟩) 2 FULL), (.slice (some ⟨234497, 0, none⟩) 1 FULL), (.slice (some ⟨340559, 0, none⟩) 1 FULL), (.slice none 0 0), (.int .i64 184), (.slice (some ⟨327722, 0, none⟩) 5 FULL), (.bool false), (.slice none 0 0), (.slice none 0 0)] 125 1
/-- (*railplan/railplanref39.Traffic).second -/
def axk207 : Cut where
  f := 47
  n := 340511
  args := [(.pointer (some ⟨194069, 0, none⟩))]
  pre := [(194069, axb190), (39225, axb4), (39484, axb5), (40179, axb12), (40181, axb23), (40170, axb14), (40185, axb24), (40183, axb16), (234471, axb31), (234460, axb26), (162974, axb30), (162788, .cells [(.int .i64 0), (.int .i64 0)] 247 2), (162955, .cells [(.int .i64 0), (.int .i64 1)] 247 2), (234497, axb83), (300647, .cells [(.int .i64 (-16))] 3 1), (300659, .cells [(.int .i64 0)] 3 1), (300672, .cells [(.int .i64 45)] 3 1), (340221, axb152), (327722, axb153)]
  v := (.bool true)
  post := [(194069, axb191), (39225, axb4), (39484, axb5), (40179, axb12), (40181, axb23), (40170, axb14), (40185, axb24), (40183, axb16), (234471, axb31), (234460, axb26), (162974, axb30), (162788, .cells [(.int .i64 0), (.int .i64 0)] 247 2), (162955, .cells [(.int .i64 0), (.int .i64 1)] 247 2), (234497, axb83), (300647, .cells [(.int .i64 (-16))] 3 1), (300659, .cells [(.int .i64 0)] 3 1), (300672, .cells [(.int .i64 45)] 3 1), (340559, axb152), (327722, axb153)]
  n2 := 340815
  frame := [40189, 5289, 5548, 6243, 6245, 6234, 6249, 6247]
def axk207_h : Hook := (fun _ _ _ _ => none)
def axb192 : EBlk := .cells [(.slice none 0 0), (.slice none 0 0), (.slice (some ⟨39225, 0, none⟩) 2 FULL), (.slice (some ⟨39484, 0, none⟩) 1 FULL), (.slice (some ⟨40179, 0, none⟩) 1 1), (.slice (some ⟨40181, 0, none⟩) 1 1), (.slice (some ⟨40185, 0, none⟩) 1 1), (.slice none 0 0), (.slice (some ⟨234471, 0, none⟩) 1 FULL), (.slice (some ⟨162974, 0, none⟩) 2 FULL), (.slice (some ⟨162974, 0, none⟩) 2 FULL), (.slice (some ⟨234497, 0, none⟩) 1 FULL), (.slice (some ⟨340897, 0, none⟩) 1 FULL), (.slice none 0 0), (.int .i64 185), (.slice (some ⟨327722, 0, none⟩) 5 FULL), (.bool false), (.slice none 0 0), (.slice none 0 0)] 125 1
/-- (*railplan/railplanref39.Traffic).second -/
def axk208 : Cut where
  f := 47
  n := 340849
  args := [(.pointer (some ⟨194069, 0, none⟩))]
  pre := [(194069, axb191), (39225, axb4), (39484, axb5), (40179, axb12), (40181, axb23), (40170, axb14), (40185, axb24), (40183, axb16), (234471, axb31), (234460, axb26), (162974, axb30), (162788, .cells [(.int .i64 0), (.int .i64 0)] 247 2), (162955, .cells [(.int .i64 0), (.int .i64 1)] 247 2), (234497, axb83), (300647, .cells [(.int .i64 (-16))] 3 1), (300659, .cells [(.int .i64 0)] 3 1), (300672, .cells [(.int .i64 45)] 3 1), (340559, axb152), (327722, axb153)]
  v := (.bool true)
  post := [(194069, axb192), (39225, axb4), (39484, axb5), (40179, axb12), (40181, axb23), (40170, axb14), (40185, axb24), (40183, axb16), (234471, axb31), (234460, axb26), (162974, axb30), (162788, .cells [(.int .i64 0), (.int .i64 0)] 247 2), (162955, .cells [(.int .i64 0), (.int .i64 1)] 247 2), (234497, axb83), (300647, .cells [(.int .i64 (-16))] 3 1), (300659, .cells [(.int .i64 0)] 3 1), (300672, .cells [(.int .i64 45)] 3 1), (340897, axb152), (327722, axb153)]
  n2 := 341153
  frame := [40189, 5289, 5548, 6243, 6245, 6234, 6249, 6247]
def axk208_h : Hook := (fun _ _ _ _ => none)
def axb193 : EBlk := .cells [(.slice none 0 0), (.slice none 0 0), (.slice (some ⟨39225, 0, none⟩) 2 FULL), (.slice (some ⟨39484, 0, none⟩) 1 FULL), (.slice (some ⟨40179, 0, none⟩) 1 1), (.slice (some ⟨40181, 0, none⟩) 1 1), (.slice (some ⟨40185, 0, none⟩) 1 1), (.slice none 0 0), (.slice (some ⟨234471, 0, none⟩) 1 FULL), (.slice (some ⟨162974, 0, none⟩) 2 FULL), (.slice (some ⟨162974, 0, none⟩) 2 FULL), (.slice (some ⟨234497, 0, none⟩) 1 FULL), (.slice (some ⟨341235, 0, none⟩) 1 FULL), (.slice none 0 0), (.int .i64 186), (.slice (some ⟨327722, 0, none⟩) 5 FULL), (.bool false), (.slice none 0 0), (.slice none 0 0)] 125 1
/-- (*railplan/railplanref39.Traffic).second -/
def axk209 : Cut where
  f := 47
  n := 341187
  args := [(.pointer (some ⟨194069, 0, none⟩))]
  pre := [(194069, axb192), (39225, axb4), (39484, axb5), (40179, axb12), (40181, axb23), (40170, axb14), (40185, axb24), (40183, axb16), (234471, axb31), (234460, axb26), (162974, axb30), (162788, .cells [(.int .i64 0), (.int .i64 0)] 247 2), (162955, .cells [(.int .i64 0), (.int .i64 1)] 247 2), (234497, axb83), (300647, .cells [(.int .i64 (-16))] 3 1), (300659, .cells [(.int .i64 0)] 3 1), (300672, .cells [(.int .i64 45)] 3 1), (340897, axb152), (327722, axb153)]
  v := (.bool true)
  post := [(194069, axb193), (39225, axb4), (39484, axb5), (40179, axb12), (40181, axb23), (40170, axb14), (40185, axb24), (40183, axb16), (234471, axb31), (234460, axb26), (162974, axb30), (162788, .cells [(.int .i64 0), (.int .i64 0)] 247 2), (162955, .cells [(.int .i64 0), (.int .i64 1)] 247 2), (234497, axb83), (300647, .cells [(.int .i64 (-16))] 3 1), (300659, .cells [(.int .i64 0)] 3 1), (300672, .cells [(.int .i64 45)] 3 1), (341235, axb152), (327722, axb153)]
  n2 := 341491
  frame := [40189, 5289, 5548, 6243, 6245, 6234, 6249, 6247]
def axk209_h : Hook := (fun _ _ _ _ => none)
def axb194 : EBlk := .cells [(.slice none 0 0), (.slice none 0 0), (.slice (some ⟨39225, 0, none⟩) 2 FULL), (.slice (some ⟨39484, 0, none⟩) 1 FULL), (.slice (some ⟨40179, 0, none⟩) 1 1), (.slice (some ⟨40181, 0, none⟩) 1 1), (.slice (some ⟨40185, 0, none⟩) 1 1), (.slice none 0 0), (.slice (some ⟨234471, 0, none⟩) 1 FULL), (.slice (some ⟨162974, 0, none⟩) 2 FULL), (.slice (some ⟨162974, 0, none⟩) 2 FULL), (.slice (some ⟨234497, 0, none⟩) 1 FULL), (.slice (some ⟨341573, 0, none⟩) 1 FULL), (.slice none 0 0), (.int .i64 187), (.slice (some ⟨327722, 0, none⟩) 5 FULL), (.bool false), (.slice none 0 0), (.slice none 0 0)] 125 1
/-- (*railplan/railplanref39.Traffic).second -/
def axk210 : Cut where
  f := 47
  n := 341525
  args := [(.pointer (some ⟨194069, 0, none⟩))]
  pre := [(194069, axb193), (39225, axb4), (39484, axb5), (40179, axb12), (40181, axb23), (40170, axb14), (40185, axb24), (40183, axb16), (234471, axb31), (234460, axb26), (162974, axb30), (162788, .cells [(.int .i64 0), (.int .i64 0)] 247 2), (162955, .cells [(.int .i64 0), (.int .i64 1)] 247 2), (234497, axb83), (300647, .cells [(.int .i64 (-16))] 3 1), (300659, .cells [(.int .i64 0)] 3 1), (300672, .cells [(.int .i64 45)] 3 1), (341235, axb152), (327722, axb153)]
  v := (.bool true)
  post := [(194069, axb194), (39225, axb4), (39484, axb5), (40179, axb12), (40181, axb23), (40170, axb14), (40185, axb24), (40183, axb16), (234471, axb31), (234460, axb26), (162974, axb30), (162788, .cells [(.int .i64 0), (.int .i64 0)] 247 2), (162955, .cells [(.int .i64 0), (.int .i64 1)] 247 2), (234497, axb83), (300647, .cells [(.int .i64 (-16))] 3 1), (300659, .cells [(.int .i64 0)] 3 1), (300672, .cells [(.int .i64 45)] 3 1), (341573, axb152), (327722, axb153)]
  n2 := 341829
  frame := [40189, 5289, 5548, 6243, 6245, 6234, 6249, 6247]
def axk210_h : Hook := (fun _ _ _ _ => none)
def axb195 : EBlk := .cells [(.slice none 0 0), (.slice none 0 0), (.slice (some ⟨39225, 0, none⟩) 2 FULL), (.slice (some ⟨39484, 0, none⟩) 1 FULL), (.slice (some ⟨40179, 0, none⟩) 1 1), (.slice (some ⟨40181, 0, none⟩) 1 1), (.slice (some ⟨40185, 0, none⟩) 1 1), (.slice none 0 0), (.slice (some ⟨234471, 0, none⟩) 1 FULL), (.slice (some ⟨162974, 0, none⟩) 2 FULL), (.slice (some ⟨162974, 0, none⟩) 2 FULL), (.slice (some ⟨234497, 0, none⟩) 1 FULL), (.slice (some ⟨341911, 0, none⟩) 1 FULL), (.slice none 0 0), (.int .i64 188), (.slice (some ⟨327722, 0, none⟩) 5 FULL), (.bool false), (.slice none 0 0), (.slice none 0 0)] 125 1
/-- (*railplan/railplanref39.Traffic).second -/
def axk211 : Cut where
  f := 47
  n := 341863
  args := [(.pointer (some ⟨194069, 0, none⟩))]
  pre := [(194069, axb194), (39225, axb4), (39484, axb5), (40179, axb12), (40181, axb23), (40170, axb14), (40185, axb24), (40183, axb16), (234471, axb31), (234460, axb26), (162974, axb30), (162788, .cells [(.int .i64 0), (.int .i64 0)] 247 2), (162955, .cells [(.int .i64 0), (.int .i64 1)] 247 2), (234497, axb83), (300647, .cells [(.int .i64 (-16))] 3 1), (300659, .cells [(.int .i64 0)] 3 1), (300672, .cells [(.int .i64 45)] 3 1), (341573, axb152), (327722, axb153)]
  v := (.bool true)
  post := [(194069, axb195), (39225, axb4), (39484, axb5), (40179, axb12), (40181, axb23), (40170, axb14), (40185, axb24), (40183, axb16), (234471, axb31), (234460, axb26), (162974, axb30), (162788, .cells [(.int .i64 0), (.int .i64 0)] 247 2), (162955, .cells [(.int .i64 0), (.int .i64 1)] 247 2), (234497, axb83), (300647, .cells [(.int .i64 (-16))] 3 1), (300659, .cells [(.int .i64 0)] 3 1), (300672, .cells [(.int .i64 45)] 3 1), (341911, axb152), (327722, axb153)]
  n2 := 342167
  frame := [40189, 5289, 5548, 6243, 6245, 6234, 6249, 6247]
def axk211_h : Hook := (fun _ _ _ _ => none)
def axb196 : EBlk := .cells [(.slice none 0 0), (.slice none 0 0), (.slice (some ⟨39225, 0, none⟩) 2 FULL), (.slice (some ⟨39484, 0, none⟩) 1 FULL), (.slice (some ⟨40179, 0, none⟩) 1 1), (.slice (some ⟨40181, 0, none⟩) 1 1), (.slice (some ⟨40185, 0, none⟩) 1 1), (.slice none 0 0), (.slice (some ⟨234471, 0, none⟩) 1 FULL), (.slice (some ⟨162974, 0, none⟩) 2 FULL), (.slice (some ⟨162974, 0, none⟩) 2 FULL), (.slice (some ⟨234497, 0, none⟩) 1 FULL), (.slice (some ⟨342249, 0, none⟩) 1 FULL), (.slice none 0 0), (.int .i64 189), (.slice (some ⟨327722, 0, none⟩) 5 FULL), (.bool false), (.slice none 0 0), (.slice none 0 0)] 125 1
/-- (*railplan/railplanref39.Traffic).second -/
def axk212 : Cut where
  f := 47
  n := 342201
  args := [(.pointer (some ⟨194069, 0, none⟩))]
  pre := [(194069, axb195), (39225, axb4), (39484, axb5), (40179, axb12), (40181, axb23), (40170, axb14), (40185, axb24), (40183, axb16), (234471, axb31), (234460, axb26), (162974, axb30), (162788, .cells [(.int .i64 0), (.int .i64 0)] 247 2), (162955, .cells [(.int .i64 0), (.int .i64 1)] 247 2), (234497, axb83), (300647, .cells [(.int .i64 (-16))] 3 1), (300659, .cells [(.int .i64 0)] 3 1), (300672, .cells [(.int .i64 45)] 3 1), (341911, axb152), (327722, axb153)]
  v := (.bool true)
  post := [(194069, axb196), (39225, axb4), (39484, axb5), (40179, axb12), (40181, axb23), (40170, axb14), (40185, axb24), (40183, axb16), (234471, axb31), (234460, axb26), (162974, axb30), (162788, .cells [(.int .i64 0), (.int .i64 0)] 247 2), (162955, .cells [(.int .i64 0), (.int .i64 1)] 247 2), (234497, axb83), (300647, .cells [(.int .i64 (-16))] 3 1), (300659, .cells [(.int .i64 0)] 3 1), (300672, .cells [(.int .i64 45)] 3 1), (342249, axb152), (327722, axb153)]
  n2 := 342505
  frame := [40189, 5289, 5548, 6243, 6245, 6234, 6249, 6247]
def axk212_h : Hook := (fun _ _ _ _ => none)
def axb197 : EBlk := .cells [(.slice none 0 0), (.slice none 0 0), (.slice (some ⟨39225, 0, none⟩) 2 FULL), (.slice (some ⟨39484, 0, none⟩) 1 FULL), (.slice (some ⟨40179, 0, none⟩) 1 1), (.slice (some ⟨40181, 0, none⟩) 1 1), (.slice (some ⟨40185, 0, none⟩) 1 1), (.slice none 0 0), (.slice (some ⟨234471, 0, none⟩) 1 FULL), (.slice (some ⟨162974, 0, none⟩) 2 FULL), (.slice (some ⟨162974, 0, none⟩) 2 FULL), (.slice (some ⟨234497, 0, none⟩) 1 FULL), (.slice (some ⟨342587, 0, none⟩) 1 FULL), (.slice none 0 0), (.int .i64 190), (.slice (some ⟨327722, 0, none⟩) 5 FULL), (.bool false), (.slice none 0 0), (.slice none 0 0)] 125 1
/-- (*railplan/railplanref39.Traffic).second -/
def axk213 : Cut where
  f := 47
  n := 342539
  args := [(.pointer (some ⟨194069, 0, none⟩))]
  pre := [(194069, axb196), (39225, axb4), (39484, axb5), (40179, axb12), (40181, axb23), (40170, axb14), (40185, axb24), (40183, axb16), (234471, axb31), (234460, axb26), (162974, axb30), (162788, .cells [(.int .i64 0), (.int .i64 0)] 247 2), (162955, .cells [(.int .i64 0), (.int .i64 1)] 247 2), (234497, axb83), (300647, .cells [(.int .i64 (-16))] 3 1), (300659, .cells [(.int .i64 0)] 3 1), (300672, .cells [(.int .i64 45)] 3 1), (342249, axb152), (327722, axb153)]
  v := (.bool true)
  post := [(194069, axb197), (39225, axb4), (39484, axb5), (40179, axb12), (40181, axb23), (40170, axb14), (40185, axb24), (40183, axb16), (234471, axb31), (234460, axb26), (162974, axb30), (162788, .cells [(.int .i64 0), (.int .i64 0)] 247 2), (162955, .cells [(.int .i64 0), (.int .i64 1)] 247 2), (234497, axb83), (300647, .cells [(.int .i64 (-16))] 3 1), (300659, .cells [(.int .i64 0)] 3 1), (300672, .cells [(.int .i64 45)] 3 1), (342587, axb152), (327722, axb153)]
  n2 := 342843
  frame := [40189, 5289, 5548, 6243, 6245, 6234, 6249, 6247]
def axk213_h : Hook := (fun _ _ _ _ => none)
def axb198 : EBlk := .cells [(.slice none 0 0), (.slice none 0 0), (.slice (some ⟨39225, 0, none⟩) 2 FULL), (.slice (some ⟨39484, 0, none⟩) 1 FULL), (.slice (some ⟨40179, 0, none⟩) 1 1), (.slice (some ⟨40181, 0, none⟩) 1 1), (.slice (some ⟨40185, 0, none⟩) 1 1), (.slice none 0 0), (.slice (some ⟨234471, 0, none⟩) 1 FULL), (.slice (some ⟨162974, 0, none⟩) 2 FULL), (.slice (some ⟨162974, 0, none⟩) 2 FULL), (.slice (some ⟨234497, 0, none⟩) 1 FULL), (.slice (some ⟨342925, 0, none⟩) 1 FULL), (.slice none 0 0), (.int .i64 191), (.slice (some ⟨327722, 0, none⟩) 5 FULL), (.bool false), (.slice none 0 0), (.slice none 0 0)] 125 1
/-- (*railplan/railplanref39.Traffic).second -/
def axk214 : Cut where
  f := 47
  n := 342877
  args := [(.pointer (some ⟨194069, 0, none⟩))]
  pre := [(194069, axb197), (39225, axb4), (39484, axb5), (40179, axb12), (40181, axb23), (40170, axb14), (40185, axb24), (40183, axb16), (234471, axb31), (234460, axb26), (162974, axb30), (162788, .cells [(.int .i64 0), (.int .i64 0)] 247 2), (162955, .cells [(.int .i64 0), (.int .i64 1)] 247 2), (234497, axb83), (300647, .cells [(.int .i64 (-16))] 3 1), (300659, .cells [(.int .i64 0)] 3 1), (300672, .cells [(.int .i64 45)] 3 1), (342587, axb152), (327722, axb153)]
  v := (.bool true)
  post := [(194069, axb198), (39225, axb4), (39484, axb5), (40179, axb12), (40181, axb23), (40170, axb14), (40185, axb24), (40183, axb16), (234471, axb31), (234460, axb26), (162974, axb30), (162788, .cells [(.int .i64 0), (.int .i64 0)] 247 2), (162955, .cells [(.int .i64 0), (.int .i64 1)] 247 2), (234497, axb83), (300647, .cells [(.int .i64 (-16))] 3 1), (300659, .cells [(.int .i64 0)] 3 1), (300672, .cells [(.int .i64 45)] 3 1), (342925, axb152), (327722, axb153)]
  n2 := 343181
  frame := [40189, 5289, 5548, 6243, 6245, 6234, 6249, 6247]
def axk214_h : Hook := (fun _ _ _ _ => none)
def axb199 : EBlk := .cells [(.slice none 0 0), (.slice none 0 0), (.slice (some ⟨39225, 0, none⟩) 2 FULL), (.slice (some ⟨39484, 0, none⟩) 1 FULL), (.slice (some ⟨40179, 0, none⟩) 1 1), (.slice (some ⟨40181, 0, none⟩) 1 1), (.slice (some ⟨40185, 0, none⟩) 1 1), (.slice none 0 0), (.slice (some ⟨234471, 0, none⟩) 1 FULL), (.slice (some ⟨162974, 0, none⟩) 2 FULL), (.slice (some ⟨162974, 0, none⟩) 2 FULL), (.slice (some ⟨234497, 0, none⟩) 1 FULL), (.slice (some ⟨343263, 0, none⟩) 1 FULL), (.slice none 0 0), (.int .i64 192), (.slice (some ⟨327722, 0, none⟩) 5 FULL), (.bool false), (.slice none 0 0), (.slice none 0 0)] 125 1
/-- (*railplan/railplanref39.Traffic).second -/
def axk215 : Cut where
  f := 47
  n := 343215
  args := [(.pointer (some ⟨194069, 0, none⟩))]
  pre := [(194069, axb198), (39225, axb4), (39484, axb5), (40179, axb12), (40181, axb23), (40170, axb14), (40185, axb24), (40183, axb16), (234471, axb31), (234460, axb26), (162974, axb30), (162788, .cells [(.int .i64 0), (.int .i64 0)] 247 2), (162955, .cells [(.int .i64 0), (.int .i64 1)] 247 2), (234497, axb83), (300647, .cells [(.int .i64 (-16))] 3 1), (300659, .cells [(.int .i64 0)] 3 1), (300672, .cells [(.int .i64 45)] 3 1), (342925, axb152), (327722, axb153)]
  v := (.bool true)
  post := [(194069, axb199), (39225, axb4), (39484, axb5), (40179, axb12), (40181, axb23), (40170, axb14), (40185, axb24), (40183, axb16), (234471, axb31), (234460, axb26), (162974, axb30), (162788, .cells [(.int .i64 0), (.int .i64 0)] 247 2), (162955, .cells [(.int .i64 0), (.int .i64 1)] 247 2), (234497, axb83), (300647, .cells [(.int .i64 (-16))] 3 1), (300659, .cells [(.int .i64 0)] 3 1), (300672, .cells [(.int .i64 45)] 3 1), (343263, axb152), (327722, axb153)]
  n2 := 343519
  frame := [40189, 5289, 5548, 6243, 6245, 6234, 6249, 6247]
def axk215_h : Hook := (fun _ _ _ _ => none)
def axb200 : EBlk := .cells [(.slice none 0 0), (.slice none 0 0), (.slice (some ⟨39225, 0, none⟩) 2 FULL), (.slice (some ⟨39484, 0, none⟩) 1 FULL), (.slice (some ⟨40179, 0, none⟩) 1 1), (.slice (some ⟨40181, 0, none⟩) 1 1), (.slice (some ⟨40185, 0, none⟩) 1 1), (.slice none 0 0), (.slice (some ⟨234471, 0, none⟩) 1 FULL), (.slice (some ⟨162974, 0, none⟩) 2 FULL), (.slice (some ⟨162974, 0, none⟩) 2 FULL), (.slice (some ⟨234497, 0, none⟩) 1 FULL), (.slice (some ⟨343601, 0, none⟩) 1 FULL), (.slice none 0 0), (.int .i64 193), (.slice (some ⟨327722, 0, none⟩) 5 FULL), (.bool false), (.slice none 0 0), (.slice none 0 0)] 125 1
/-- (*railplan/railplanref39.Traffic).second -/
def axk216 : Cut where
  f := 47
  n := 343553
  args := [(.pointer (some ⟨194069, 0, none⟩))]
  pre := [(194069, axb199), (39225, axb4), (39484, axb5), (40179, axb12), (40181, axb23), (40170, axb14), (40185, axb24), (40183, axb16), (234471, axb31), (234460, axb26), (162974, axb30), (162788, .cells [(.int .i64 0), (.int .i64 0)] 247 2), (162955, .cells [(.int .i64 0), (.int .i64 1)] 247 2), (234497, axb83), (300647, .cells [(.int .i64 (-16))] 3 1), (300659, .cells [(.int .i64 0)] 3 1), (300672, .cells [(.int .i64 45)] 3 1), (343263, axb152), (327722, axb153)]
  v := (.bool true)
  post := [(194069, axb200), (39225, axb4), (39484, axb5), (40179, axb12), (40181, axb23), (40170, axb14), (40185, axb24), (40183, axb16), (234471, axb31), (234460, axb26), (162974, axb30), (162788, .cells [(.int .i64 0), (.int .i64 0)] 247 2), (162955, .cells [(.int .i64 0), (.int .i64 1)] 247 2), (234497, axb83), (300647, .cells [(.int .i64 (-16))] 3 1), (300659, .cells [(.int .i64 0)] 3 1), (300672, .cells [(.int .i64 45)] 3 1), (343601, axb152), (327722, axb153)]
  n2 := 343857
  frame := [40189, 5289, 5548, 6243, 6245, 6234, 6249, 6247]
def axk216_h : Hook := (fun _ _ _ _ => none)
def axb201 : EBlk := .cells [(.slice none 0 0), (.slice none 0 0), (.slice (some ⟨39225, 0, none⟩) 2 FULL), (.slice (some ⟨39484, 0, none⟩) 1 FULL), (.slice (some ⟨40179, 0, none⟩) 1 1), (.slice (some ⟨40181, 0, none⟩) 1 1), (.slice (some ⟨40185, 0, none⟩) 1 1), (.slice none 0 0), (.slice (some ⟨234471, 0, none⟩) 1 FULL), (.slice (some ⟨162974, 0, none⟩) 2 FULL), (.slice (some ⟨162974, 0, none⟩) 2 FULL), (.slice (some ⟨234497, 0, none⟩) 1 FULL), (.slice (some ⟨343939, 0, none⟩) 1 FULL), (.slice none 0 0), (.int .i64 194), (.slice (some ⟨327722, 0, none⟩) 5 FULL), (.bool false), (.slice none 0 0), (.slice none 0 0)] 125 1
/-- (*railplan/railplanref39.Traffic).second -/
def axk217 : Cut where
  f := 47
  n := 343891
  args := [(.pointer (some ⟨194069, 0, none⟩))]
  pre := [(194069, axb200), (39225, axb4), (39484, axb5), (40179, axb12), (40181, axb23), (40170, axb14), (40185, axb24), (40183, axb16), (234471, axb31), (234460, axb26), (162974, axb30), (162788, .cells [(.int .i64 0), (.int .i64 0)] 247 2), (162955, .cells [(.int .i64 0), (.int .i64 1)] 247 2), (234497, axb83), (300647, .cells [(.int .i64 (-16))] 3 1), (300659, .cells [(.int .i64 0)] 3 1), (300672, .cells [(.int .i64 45)] 3 1), (343601, axb152), (327722, axb153)]
  v := (.bool true)
  post := [(194069, axb201), (39225, axb4), (39484, axb5), (40179, axb12), (40181, axb23), (40170, axb14), (40185, axb24), (40183, axb16), (234471, axb31), (234460, axb26), (162974, axb30), (162788, .cells [(.int .i64 0), (.int .i64 0)] 247 2), (162955, .cells [(.int .i64 0), (.int .i64 1)] 247 2), (234497, axb83), (300647, .cells [(.int .i64 (-16))] 3 1), (300659, .cells [(.int .i64 0)] 3 1), (300672, .cells [(.int .i64 45)] 3 1), (343939, axb152), (327722, axb153)]
  n2 := 344195
  frame := [40189, 5289, 5548, 6243, 6245, 6234, 6249, 6247]
def axk217_h : Hook := (fun _ _ _ _ => none)
def axb202 : EBlk := .cells [(.slice none 0 0), (.slice none 0 0), (.slice (some ⟨39225, 0, none⟩) 2 FULL), (.slice (some ⟨39484, 0, none⟩) 1 FULL), (.slice (some ⟨40179, 0, none⟩) 1 1), (.slice (some ⟨40181, 0, none⟩) 1 1), (.slice (some ⟨40185, 0, none⟩) 1 1), (.slice none 0 0), (.slice (some ⟨234471, 0, none⟩) 1 FULL), (.slice (some ⟨162974, 0, none⟩) 2 FULL), (.slice (some ⟨162974, 0, none⟩) 2 FULL), (.slice (some ⟨234497, 0, none⟩) 1 FULL), (.slice (some ⟨344277, 0, none⟩) 1 FULL), (.slice none 0 0), (.int .i64 195), (.slice (some ⟨327722, 0, none⟩) 5 FULL), (.bool false), (.slice none 0 0), (.slice none 0 0)] 125 1
/-- (*railplan/railplanref39.Traffic).second -/
def axk218 : Cut where
  f := 47
  n := 344229
  args := [(.pointer (some ⟨194069, 0, none⟩))]
  pre := [(194069, axb201), (39225, axb4), (39484, axb5), (40179, axb12), (40181, axb23), (40170, axb14), (40185, axb24), (40183, axb16), (234471, axb31), (234460, axb26), (162974, axb30), (162788, .cells [(.int .i64 0), (.int .i64 0)] 247 2), (162955, .cells [(.int .i64 0), (.int .i64 1)] 247 2), (234497, axb83), (300647, .cells [(.int .i64 (-16))] 3 1), (300659, .cells [(.int .i64 0)] 3 1), (300672, .cells [(.int .i64 45)] 3 1), (343939, axb152), (327722, axb153)]
  v := (.bool true)
  post := [(194069, axb202), (39225, axb4), (39484, axb5), (40179, axb12), (40181, axb23), (40170, axb14), (40185, axb24), (40183, axb16), (234471, axb31), (234460, axb26), (162974, axb30), (162788, .cells [(.int .i64 0), (.int .i64 0)] 247 2), (162955, .cells [(.int .i64 0), (.int .i64 1)] 247 2), (234497, axb83), (300647, .cells [(.int .i64 (-16))] 3 1), (300659, .cells [(.int .i64 0)] 3 1), (300672, .cells [(.int .i64 45)] 3 1), (344277, axb152), (327722, axb153)]
  n2 := 344533
  frame := [40189, 5289, 5548, 6243, 6245, 6234, 6249, 6247]
def axk218_h : Hook := (fun _ _ _ _ => none)
def axb203 : EBlk := .cells [(.slice none 0 0), (.slice none 0 0), (.slice (some ⟨39225, 0, none⟩) 2 FULL), (.slice (some ⟨39484, 0, none⟩) 1 FULL), (.slice (some ⟨40179, 0, none⟩) 1 1), (.slice (some ⟨40181, 0, none⟩) 1 1), (.slice (some ⟨40185, 0, none⟩) 1 1), (.slice none 0 0), (.slice (some ⟨234471, 0, none⟩) 1 FULL), (.slice (some ⟨162974, 0, none⟩) 2 FULL), (.slice (some ⟨162974, 0, none⟩) 2 FULL), (.slice (some ⟨234497, 0, none⟩) 1 FULL), (.slice (some ⟨344615, 0, none⟩) 1 FULL), (.slice none 0 0), (.int .i64 196), (.slice (some ⟨327722, 0, none⟩) 5 FULL), (.bool false), (.slice none 0 0), (.slice none 0 0)] 125 1
/-- (*railplan/railplanref39.Traffic).second -/
def axk219 : Cut where
  f := 47
  n := 344567
  args := [(.pointer (some ⟨194069, 0, none⟩))]
  pre := [(194069, axb202), (39225, axb4), (39484, axb5), (40179, axb12), (40181, axb23), (40170, axb14), (40185, axb24), (40183, axb16), (234471, axb31), (234460, axb26), (162974, axb30), (162788, .cells [(.int .i64 0), (.int .i64 0)] 247 2), (162955, .cells [(.int .i64 0), (.int .i64 1)] 247 2), (234497, axb83), (300647, .cells [(.int .i64 (-16))] 3 1), (300659, .cells [(.int .i64 0)] 3 1), (300672, .cells [(.int .i64 45)] 3 1), (344277, axb152), (327722, axb153)]
  v := (.bool true)
  post := [(194069, axb203), (39225, axb4), (39484, axb5), (40179, axb12), (40181, axb23), (40170, axb14), (40185, axb24), (40183, axb16), (234471, axb31), (234460, axb26), (162974, axb30), (162788, .cells [(.int .i64 0), (.int .i64 0)] 247 2), (162955, .cells [(.int .i64 0), (.int .i64 1)] 247 2), (234497, axb83), (300647, .cells [(.int .i64 (-16))] 3 1), (300659, .cells [(.int .i64 0)] 3 1), (300672, .cells [(.int .i64 45)] 3 1), (344615, axb152), (327722, axb153)]
  n2 := 344871
  frame := [40189, 5289, 5548, 6243, 6245, 6234, 6249, 6247]
def axk219_h : Hook := (fun _ _ _ _ => none)
def axb204 : EBlk := .cells [(.slice none 0 0), (.slice none 0 0), (.slice (some ⟨39225, 0, none⟩) 2 FULL), (.slice (some ⟨39484, 0, none⟩) 1 FULL), (.slice (some ⟨40179, 0, none⟩) 1 1), (.slice (some ⟨40181, 0, none⟩) 1 1), (.slice (some ⟨40185, 0, none⟩) 1 1), (.slice none 0 0), (.slice (some ⟨234471, 0, none⟩) 1 FULL), (.slice (some ⟨162974, 0, none⟩) 2 FULL), (.slice (some ⟨162974, 0, none⟩) 2 FULL), (.slice (some ⟨234497, 0, none⟩) 1 FULL), (.slice (some ⟨344953, 0, none⟩) 1 FULL), (.slice none 0 0), (.int .i64 197), (.slice (some ⟨327722, 0, none⟩) 5 FULL), (.bool false), (.slice none 0 0), (.slice none 0 0)] 125 1
/-- (*railplan/railplanref39.Traffic).second -/
def axk220 : Cut where
  f := 47
  n := 344905
  args := [(.pointer (some ⟨194069, 0, none⟩))]
  pre := [(194069, axb203), (39225, axb4), (39484, axb5), (40179, axb12), (40181, axb23), (40170, axb14), (40185, axb24), (40183, axb16), (234471, axb31), (234460, axb26), (162974, axb30), (162788, .cells [(.int .i64 0), (.int .i64 0)] 247 2), (162955, .cells [(.int .i64 0), (.int .i64 1)] 247 2), (234497, axb83), (300647, .cells [(.int .i64 (-16))] 3 1), (300659, .cells [(.int .i64 0)] 3 1), (300672, .cells [(.int .i64 45)] 3 1), (344615, axb152), (327722, axb153)]
  v := (.bool true)
  post := [(194069, axb204), (39225, axb4), (39484, axb5), (40179, axb12), (40181, axb23), (40170, axb14), (40185, axb24), (40183, axb16), (234471, axb31), (234460, axb26), (162974, axb30), (162788, .cells [(.int .i64 0), (.int .i64 0)] 247 2), (162955, .cells [(.int .i64 0), (.int .i64 1)] 247 2), (234497, axb83), (300647, .cells [(.int .i64 (-16))] 3 1), (300659, .cells [(.int .i64 0)] 3 1), (300672, .cells [(.int .i64 45)] 3 1), (344953, axb152), (327722, axb153)]
  n2 := 345209
  frame := [40189, 5289, 5548, 6243, 6245, 6234, 6249, 6247]
def axk220_h : Hook := (fun _ _ _ _ => none)
def axb205 : EBlk := .cells [(.slice none 0 0), (.slice none 0 0), (.slice (some ⟨39225, 0, none⟩) 2 FULL), (.slice (some ⟨39484, 0, none⟩) 1 FULL), (.slice (some ⟨40179, 0, none⟩) 1 1), (.slice (some ⟨40181, 0, none⟩) 1 1), (.slice (some ⟨40185, 0, none⟩) 1 1), (.slice none 0 0), (.slice (some ⟨234471, 0, none⟩) 1 FULL), (.slice (some ⟨162974, 0, none⟩) 2 FULL), (.slice (some ⟨162974, 0, none⟩) 2 FULL), (.slice (some ⟨234497, 0, none⟩) 1 FULL), (.slice (some ⟨345291, 0, none⟩) 1 FULL), (.slice none 0 0), (.int .i64 198), (.slice (some ⟨327722, 0, none⟩) 5 FULL), (.bool false), (.slice none 0 0), (.slice none 0 0)] 125 1
/-- (*railplan/railplanref39.Traffic).second -/
def axk221 : Cut where
  f := 47
  n := 345243
  args := [(.pointer (some ⟨194069, 0, none⟩))]
  pre := [(194069, axb204), (39225, axb4), (39484, axb5), (40179, axb12), (40181, axb23), (40170, axb14), (40185, axb24), (40183, axb16), (234471, axb31), (234460, axb26), (162974, axb30), (162788, .cells [(.int .i64 0), (.int .i64 0)] 247 2), (162955, .cells [(.int .i64 0), (.int .i64 1)] 247 2), (234497, axb83), (300647, .cells [(.int .i64 (-16))] 3 1), (300659, .cells [(.int .i64 0)] 3 1), (300672, .cells [(.int .i64 45)] 3 1), (344953, axb152), (327722, axb153)]
  v := (.bool true)
  post := [(194069, axb205), (39225, axb4), (39484, axb5), (40179, axb12), (40181, axb23), (40170, axb14), (40185, axb24), (40183, axb16), (234471, axb31), (234460, axb26), (162974, axb30), (162788, .cells [(.int .i64 0), (.int .i64 0)] 247 2), (162955, .cells [(.int .i64 0), (.int .i64 1)] 247 2), (234497, axb83), (300647, .cells [(.int .i64 (-16))] 3 1), (300659, .cells [(.int .i64 0)] 3 1), (300672, .cells [(.int .i64 45)] 3 1), (345291, axb152), (327722, axb153)]
  n2 := 345547
  frame := [40189, 5289, 5548, 6243, 6245, 6234, 6249, 6247]
def axk221_h : Hook := (fun _ _ _ _ => none)
def axb206 : EBlk := .cells [(.slice none 0 0), (.slice none 0 0), (.slice (some ⟨39225, 0, none⟩) 2 FULL), (.slice (some ⟨39484, 0, none⟩) 1 FULL), (.slice (some ⟨40179, 0, none⟩) 1 1), (.slice (some ⟨40181, 0, none⟩) 1 1), (.slice (some ⟨40185, 0, none⟩) 1 1), (.slice none 0 0), (.slice (some ⟨234471, 0, none⟩) 1 FULL), (.slice (some ⟨162974, 0, none⟩) 2 FULL), (.slice (some ⟨162974, 0, none⟩) 2 FULL), (.slice (some ⟨234497, 0, none⟩) 1 FULL), (.slice (some ⟨345629, 0, none⟩) 1 FULL), (.slice none 0 0), (.int .i64 199), (.slice (some ⟨327722, 0, none⟩) 5 FULL), (.bool false), (.slice none 0 0), (.slice none 0 0)] 125 1
/-- (*railplan/railplanref39.Traffic).second -/
def axk222 : Cut where
  f := 47
  n := 345581
  args := [(.pointer (some ⟨194069, 0, none⟩))]
  pre := [(194069, axb205), (39225, axb4), (39484, axb5), (40179, axb12), (40181, axb23), (40170, axb14), (40185, axb24), (40183, axb16), (234471, axb31), (234460, axb26), (162974, axb30), (162788, .cells [(.int .i64 0), (.int .i64 0)] 247 2), (162955, .cells [(.int .i64 0), (.int .i64 1)] 247 2), (234497, axb83), (300647, .cells [(.int .i64 (-16))] 3 1), (300659, .cells [(.int .i64 0)] 3 1), (300672, .cells [(.int .i64 45)] 3 1), (345291, axb152), (327722, axb153)]
  v := (.bool true)
  post := [(194069, axb206), (39225, axb4), (39484, axb5), (40179, axb12), (40181, axb23), (40170, axb14), (40185, axb24), (40183, axb16), (234471, axb31), (234460, axb26), (162974, axb30), (162788, .cells [(.int .i64 0), (.int .i64 0)] 247 2), (162955, .cells [(.int .i64 0), (.int .i64 1)] 247 2), (234497, axb83), (300647, .cells [(.int .i64 (-16))] 3 1), (300659, .cells [(.int .i64 0)] 3 1), (300672, .cells [(.int .i64 45)] 3 1), (345629, axb152), (327722, axb153)]
  n2 := 345885
  frame := [40189, 5289, 5548, 6243, 6245, 6234, 6249, 6247]
def axk222_h : Hook := (fun _ _ _ _ => none)
def axb207 : EBlk := .cells [(.slice none 0 0), (.slice none 0 0), (.slice (some ⟨39225, 0, none⟩) 2 FULL), (.slice (some ⟨39484, 0, none⟩) 1 FULL), (.slice (some ⟨40179, 0, none⟩) 1 1), (.slice (some ⟨40181, 0, none⟩) 1 1), (.slice (some ⟨40185, 0, none⟩) 1 1), (.slice none 0 0), (.slice (some ⟨234471, 0, none⟩) 1 FULL), (.slice (some ⟨162974, 0, none⟩) 2 FULL), (.slice (some ⟨162974, 0, none⟩) 2 FULL), (.slice (some ⟨234497, 0, none⟩) 1 FULL), (.slice (some ⟨345967, 0, none⟩) 1 FULL), (.slice none 0 0), (.int .i64 200), (.slice (some ⟨327722, 0, none⟩) 5 FULL), (.bool false), (.slice none 0 0), (.slice none 0 0)] 125 1
/-- (*railplan/railplanref39.Traffic).second -/
def axk223 : Cut where
  f := 47
  n := 345919
  args := [(.pointer (some ⟨194069, 0, none⟩))]
  pre := [(194069, axb206), (39225, axb4), (39484, axb5), (40179, axb12), (40181, axb23), (40170, axb14), (40185, axb24), (40183, axb16), (234471, axb31), (234460, axb26), (162974, axb30), (162788, .cells [(.int .i64 0), (.int .i64 0)] 247 2), (162955, .cells [(.int .i64 0), (.int .i64 1)] 247 2), (234497, axb83), (300647, .cells [(.int .i64 (-16))] 3 1), (300659, .cells [(.int .i64 0)] 3 1), (300672, .cells [(.int .i64 45)] 3 1), (345629, axb152), (327722, axb153)]
  v := (.bool true)
  post := [(194069, axb207), (39225, axb4), (39484, axb5), (40179, axb12), (40181, axb23), (40170, axb14), (40185, axb24), (40183, axb16), (234471, axb31), (234460, axb26), (162974, axb30), (162788, .cells [(.int .i64 0), (.int .i64 0)] 247 2), (162955, .cells [(.int .i64 0), (.int .i64 1)] 247 2), (234497, axb83), (300647, .cells [(.int .i64 (-16))] 3 1), (300659, .cells [(.int .i64 0)] 3 1), (300672, .cells [(.int .i64 45)] 3 1), (345967, axb152), (327722, axb153)]
  n2 := 346223
  frame := [40189, 5289, 5548, 6243, 6245, 6234, 6249, 6247]
def axk223_h : Hook := (fun _ _ _ _ => none)
def axb208 : EBlk := .cells [(.slice none 0 0), (.slice none 0 0), (.slice (some ⟨39225, 0, none⟩) 2 FULL), (.slice (some ⟨39484, 0, none⟩) 1 FULL), (.slice (some ⟨40179, 0, none⟩) 1 1), (.slice (some ⟨40181, 0, none⟩) 1 1), (.slice (some ⟨40185, 0, none⟩) 1 1), (.slice none 0 0), (.slice (some ⟨234471, 0, none⟩) 1 FULL), (.slice (some ⟨162974, 0, none⟩) 2 FULL), (.slice (some ⟨162974, 0, none⟩) 2 FULL), (.slice (some ⟨234497, 0, none⟩) 1 FULL), (.slice (some ⟨346305, 0, none⟩) 1 FULL), (.slice none 0 0), (.int .i64 201), (.slice (some ⟨327722, 0, none⟩) 5 FULL), (.bool false), (.slice none 0 0), (.slice none 0 0)] 125 1
/-- (*railplan/railplanref39.Traffic).second -/
def axk224 : Cut where
  f := 47
  n := 346257
  args := [(.pointer (some ⟨194069, 0, none⟩))]
  pre := [(194069, axb207), (39225, axb4), (39484, axb5), (40179, axb12), (40181, axb23), (40170, axb14), (40185, axb24), (40183, axb16), (234471, axb31), (234460, axb26), (162974, axb30), (162788, .cells [(.int .i64 0), (.int .i64 0)] 247 2), (162955, .cells [(.int .i64 0), (.int .i64 1)] 247 2), (234497, axb83), (300647, .cells [(.int .i64 (-16))] 3 1), (300659, .cells [(.int .i64 0)] 3 1), (300672, .cells [(.int .i64 45)] 3 1), (345967, axb152), (327722, axb153)]
  v := (.bool true)
  post := [(194069, axb208), (39225, axb4), (39484, axb5), (40179, axb12), (40181, axb23), (40170, axb14), (40185, axb24), (40183, axb16), (234471, axb31), (234460, axb26), (162974, axb30), (162788, .cells [(.int .i64 0), (.int .i64 0)] 247 2), (162955, .cells [(.int .i64 0), (.int .i64 1)] 247 2), (234497, axb83), (300647, .cells [(.int .i64 (-16))] 3 1), (300659, .cells [(.int .i64 0)] 3 1), (300672, .cells [(.int .i64 45)] 3 1), (346305, axb152), (327722, axb153)]
  n2 := 346561
  frame := [40189, 5289, 5548, 6243, 6245, 6234, 6249, 6247]
def axk224_h : Hook := (fun _ _ _ _ => none)
def axb209 : EBlk := .cells [(.slice none 0 0), (.slice none 0 0), (.slice (some ⟨39225, 0, none⟩) 2 FULL), (.slice (some ⟨39484, 0, none⟩) 1 FULL), (.slice (some ⟨40179, 0, none⟩) 1 1), (.slice (some ⟨40181, 0, none⟩) 1 1), (.slice (some ⟨40185, 0, none⟩) 1 1), (.slice none 0 0), (.slice (some ⟨234471, 0, none⟩) 1 FULL), (.slice (some ⟨162974, 0, none⟩) 2 FULL), (.slice (some ⟨162974, 0, none⟩) 2 FULL), (.slice (some ⟨234497, 0, none⟩) 1 FULL), (.slice none 0 0), (.slice none 0 0), (.int .i64 202), (.slice (some ⟨346784, 0, none⟩) 7 FULL), (.bool false), (.slice none 0 0), (.slice none 0 0)] 125 1
def axb210 : EBlk := .cells [(.int .i64 2), (.int .i64 0), (.int .i64 0), (.int .i64 100), (.int .i64 (-1)), (.int .i64 2), (.bool true), (.int .i64 201), (.int .i64 0), (.int .i64 1), (.slice (some ⟨300647, 0, none⟩) 1 FULL), (.slice (some ⟨300659, 0, none⟩) 1 FULL), (.slice (some ⟨300672, 0, none⟩) 1 FULL), (.int .i64 0), (.int .i64 41)] 179 15
def axb211 : EBlk := .cells [(.int .i64 40), (.int .i64 5), (.int .i64 0), (.int .i64 0), (.int .i64 0), (.int .i64 0), (.int .i64 84), (.int .i64 5), (.int .i64 0), (.int .i64 0), (.int .i64 1), (.int .i64 0), (.int .i64 100), (.int .i64 8), (.int .i64 0), (.int .i64 0), (.int .i64 0), (.int .i64 0), (.int .i64 141), (.int .i64 2), (.int .i64 0), (.int .i64 0), (.int .i64 1), (.int .i64 0), (.int .i64 145), (.int .i64 1), (.int .i64 0), (.int .i64 0), (.int .i64 0), (.int .i64 0), (.int .i64 201), (.int .i64 1), (.int .i64 0), (.int .i64 0), (.int .i64 0), (.int .i64 1), (.int .i64 201), (.int .i64 3), (.int .i64 0), (.int .i64 0), (.int .i64 0), (.int .i64 0)] 32 6
/-- (*railplan/railplanref39.Traffic).second -/
def axk225 : Cut where
  f := 47
  n := 346595
  args := [(.pointer (some ⟨194069, 0, none⟩))]
  pre := [(194069, axb208), (39225, axb4), (39484, axb5), (40179, axb12), (40181, axb23), (40170, axb14), (40185, axb24), (40183, axb16), (234471, axb31), (234460, axb26), (162974, axb30), (162788, .cells [(.int .i64 0), (.int .i64 0)] 247 2), (162955, .cells [(.int .i64 0), (.int .i64 1)] 247 2), (234497, axb83), (300647, .cells [(.int .i64 (-16))] 3 1), (300659, .cells [(.int .i64 0)] 3 1), (300672, .cells [(.int .i64 45)] 3 1), (346305, axb152), (327722, axb153)]
  v := (.bool true)
  post := [(194069, axb209), (39225, axb4), (39484, axb5), (40179, axb12), (40181, axb23), (40170, axb14), (40185, axb24), (40183, axb16), (234471, axb31), (234460, axb26), (162974, axb30), (162788, .cells [(.int .i64 0), (.int .i64 0)] 247 2), (162955, .cells [(.int .i64 0), (.int .i64 1)] 247 2), (234497, axb210), (300647, .cells [(.int .i64 (-16))] 3 1), (300659, .cells [(.int .i64 0)] 3 1), (300672, .cells [(.int .i64 45)] 3 1), (346784, axb211)]
  n2 := 347081
  frame := [40189, 5289, 5548, 6243, 6245, 6234, 6249, 6247]
def axk225_h : Hook := (fun _ _ _ _ => none)
/-- railplan/railplanref39.Run -/
def axk226 : Cut where
  f := 24
  n := 40189
  args := [(.agg #[(.slice none 0 0), (.slice none 0 0), (.slice (some ⟨39225, 0, none⟩) 2 FULL), (.slice (some ⟨39484, 0, none⟩) 1 FULL), (.slice (some ⟨40179, 0, none⟩) 1 1), (.slice (some ⟨40181, 0, none⟩) 1 1), (.slice (some ⟨40185, 0, none⟩) 1 1)]), (.slice none 0 0)]
  pre := [(39225, axb4), (39484, axb5), (40179, axb12), (40181, axb23), (40170, axb14), (40185, axb24), (40183, axb16)]
  v := (.tuple #[(.slice (some ⟨346784, 0, none⟩) 7 FULL), (.int .i64 0)])
  post := [(346784, axb211), (39225, axb4), (39484, axb5), (40179, axb12), (40181, axb23), (40170, axb14), (40185, axb24), (40183, axb16)]
  n2 := 347128
  frame := [5289, 5548, 6243, 6245, 6234, 6249, 6247]
def axk226_h : Hook := (cutHook axk18 (cutHook axk34 (cutHook axk43 (cutHook axk45 (cutHook axk47 (cutHook axk56 (cutHook axk57 (cutHook axk58 (cutHook axk59 (cutHook axk60 (cutHook axk61 (cutHook axk62 (cutHook axk63 (cutHook axk64 (cutHook axk65 (cutHook axk66 (cutHook axk67 (cutHook axk68 (cutHook axk69 (cutHook axk70 (cutHook axk71 (cutHook axk72 (cutHook axk73 (cutHook axk74 (cutHook axk75 (cutHook axk76 (cutHook axk77 (cutHook axk78 (cutHook axk79 (cutHook axk80 (cutHook axk81 (cutHook axk82 (cutHook axk83 (cutHook axk84 (cutHook axk85 (cutHook axk86 (cutHook axk87 (cutHook axk88 (cutHook axk89 (cutHook axk90 (cutHook axk91 (cutHook axk92 (cutHook axk93 (cutHook axk94 (cutHook axk95 (cutHook axk96 (cutHook axk97 (cutHook axk98 (cutHook axk99 (cutHook axk100 (cutHook axk108 (cutHook axk109 (cutHook axk110 (cutHook axk111 (cutHook axk112 (cutHook axk113 (cutHook axk114 (cutHook axk115 (cutHook axk116 (cutHook axk117 (cutHook axk118 (cutHook axk119 (cutHook axk120 (cutHook axk121 (cutHook axk122 (cutHook axk123 (cutHook axk124 (cutHook axk125 (cutHook axk126 (cutHook axk127 (cutHook axk128 (cutHook axk129 (cutHook axk130 (cutHook axk131 (cutHook axk132 (cutHook axk133 (cutHook axk134 (cutHook axk135 (cutHook axk136 (cutHook axk137 (cutHook axk138 (cutHook axk139 (cutHook axk140 (cutHook axk141 (cutHook axk142 (cutHook axk143 (cutHook axk144 (cutHook axk145 (cutHook axk146 (cutHook axk147 (cutHook axk148 (cutHook axk149 (cutHook axk150 (cutHook axk151 (cutHook axk152 (cutHook axk153 (cutHook axk154 (cutHook axk155 (cutHook axk156 (cutHook axk157 (cutHook axk158 (cutHook axk159 (cutHook axk160 (cutHook axk161 (cutHook axk162 (cutHook axk163 (cutHook axk164 (cutHook axk165 (cutHook axk166 (cutHook axk167 (cutHook axk168 (cutHook axk169 (cutHook axk170 (cutHook axk171 (cutHook axk172 (cutHook axk173 (cutHook axk174 (cutHook axk175 (cutHook axk176 (cutHook axk177 (cutHook axk178 (cutHook axk179 (cutHook axk180 (cutHook axk181 (cutHook axk182 (cutHook axk183 (cutHook axk184 (cutHook axk185 (cutHook axk186 (cutHook axk187 (cutHook axk188 (cutHook axk189 (cutHook axk190 (cutHook axk191 (cutHook axk192 (cutHook axk193 (cutHook axk194 (cutHook axk195 (cutHook axk196 (cutHook axk197 (cutHook axk198 (cutHook axk199 (cutHook axk200 (cutHook axk201 (cutHook axk202 (cutHook axk203 (cutHook axk204 (cutHook axk205 (cutHook axk206 (cutHook axk207 (cutHook axk208 (cutHook axk209 (cutHook axk210 (cutHook axk211 (cutHook axk212 (cutHook axk213 (cutHook axk214 (cutHook axk215 (cutHook axk216 (cutHook axk217 (cutHook axk218 (cutHook axk219 (cutHook axk220 (cutHook axk221 (cutHook axk222 (cutHook axk223 (cutHook axk224 (cutHook axk225 (fun _ _ _ _ => none)))))))))))))))))))))))))))))))))))))))))))))))))))))))))))))))))))))))))))))))))))))))))))))))))))))))))))))))))))))))))))))))))))))))))))))))))))))))))))))))))))))))))
/-- railplan/railplanref1.one -/
def axk227 : Cut where
  f := 33
  n := 347432
  args := [(.string ⟨#[115, 101, 99, 116, 105, 111, 110, 32, 65, 32, 52, 48, 32, 51, 48, 48, 48, 48, 32, 48]⟩), (.int .i64 1)]
  pre := []
  v := (.tuple #[(.slice (some ⟨348772, 0, none⟩) 5 FULL), (.int .i64 0)])
  post := [(348772, axb0)]
  n2 := 348793
  frame := [347136, 347134, 346784, 5289, 5548, 6243, 6245, 6234, 6249, 6247, 39225, 39484, 40179, 40181, 40170, 40185, 40183]
def axk227_h : Hook := (fun _ _ _ _ => none)
/-- railplan/railplanref1.one -/
def axk228 : Cut where
  f := 33
  n := 349096
  args := [(.string ⟨#[115, 101, 99, 116, 105, 111, 110, 32, 66, 32, 50, 48, 32, 51, 48, 48, 48, 48, 32, 48]⟩), (.int .i64 2)]
  pre := []
  v := (.tuple #[(.slice (some ⟨350436, 0, none⟩) 5 FULL), (.int .i64 0)])
  post := [(350436, axb1)]
  n2 := 350457
  frame := [348806, 348772, 348805, 347136, 347134, 346784, 5289, 5548, 6243, 6245, 6234, 6249, 6247, 39225, 39484, 40179, 40181, 40170, 40185, 40183]
def axk228_h : Hook := (fun _ _ _ _ => none)
def axb212 : EBlk := .cells [(.slice (some ⟨348772, 0, none⟩) 5 FULL), (.slice (some ⟨350436, 0, none⟩) 5 FULL), (.slice (some ⟨351348, 0, none⟩) 5 FULL)] 42 1
/-- railplan/railplanref1.Lines -/
def axk229 : Cut where
  f := 17
  n := 347141
  args := [(.string ⟨#[115, 101, 99, 116, 105, 111, 110, 32, 65, 32, 52, 48, 32, 51, 48, 48, 48, 48, 32, 48, 10, 115, 101, 99, 116, 105, 111, 110, 32, 66, 32, 50, 48, 32, 51, 48, 48, 48, 48, 32, 48, 10, 108, 105, 110, 107, 32, 65, 32, 66, 32, 66, 32, 65, 10]⟩)]
  pre := []
  v := (.tuple #[(.slice (some ⟨351382, 0, none⟩) 3 FULL), (.int .i64 0), (.int .i64 0)])
  post := [(351382, axb212), (348772, axb0), (350436, axb1), (351348, axb3)]
  n2 := 351398
  frame := [347136, 347134, 346784, 5289, 5548, 6243, 6245, 6234, 6249, 6247, 39225, 39484, 40179, 40181, 40170, 40185, 40183]
def axk229_h : Hook := (cutHook axk227 (cutHook axk228 (fun _ _ _ _ => none)))
/-- railplan/railplanref1.Parse -/
def axk230 : Cut where
  f := 42
  n := 347136
  args := [(.string ⟨#[115, 101, 99, 116, 105, 111, 110, 32, 65, 32, 52, 48, 32, 51, 48, 48, 48, 48, 32, 48, 10, 115, 101, 99, 116, 105, 111, 110, 32, 66, 32, 50, 48, 32, 51, 48, 48, 48, 48, 32, 48, 10, 108, 105, 110, 107, 32, 65, 32, 66, 32, 66, 32, 65, 10]⟩)]
  pre := []
  v := (.tuple #[(.agg #[(.slice none 0 0), (.slice none 0 0), (.slice (some ⟨352421, 0, none⟩) 2 FULL), (.slice (some ⟨352680, 0, none⟩) 1 FULL)]), (.int .i64 0), (.int .i64 0)])
  post := [(352421, axb4), (352680, axb5)]
  n2 := 353356
  frame := [347134, 346784, 5289, 5548, 6243, 6245, 6234, 6249, 6247, 39225, 39484, 40179, 40181, 40170, 40185, 40183]
def axk230_h : Hook := (cutHook axk229 (fun _ _ _ _ => none))
/-- railplan/route.Cells -/
def axk231 : Cut where
  f := 320
  n := 355574
  args := [(.agg #[(.slice none 0 0), (.slice none 0 0), (.slice (some ⟨355243, 0, none⟩) 2 FULL), (.slice (some ⟨355407, 0, none⟩) 1 FULL)]), (.agg #[(.slice (some ⟨355255, 0, none⟩) 2 FULL), (.int .i64 0)])]
  pre := [(355243, axb4), (355407, axb5), (355255, axb6)]
  v := (.tuple #[(.slice (some ⟨356881, 0, none⟩) 60 FULL), (.int .i64 40), (.int .i64 0)])
  post := [(356881, axb7), (355243, axb4), (355407, axb5), (355255, axb6)]
  n2 := 356903
  frame := [355566, 355567, 355568, 355569, 355558, 355559, 355560, 355550, 355551, 355552, 353375, 355431, 353379, 354239, 352421, 352680, 353377, 353366, 353381, 355139, 355264, 355270, 354237, 355468, 353571, 354187, 354248, 355426, 355138, 353451, 353391, 353390, 353564, 353565, 346784, 353386, 353538, 353429, 353450, 5289, 5548, 6243, 6245, 6234, 6249, 6247, 39225, 39484, 40179, 40181, 40170, 40185, 40183]
def axk231_h : Hook := (fun _ _ _ _ => none)
/-- railplan/route.Cells -/
def axk232 : Cut where
  f := 320
  n := 357300
  args := [(.agg #[(.slice none 0 0), (.slice none 0 0), (.slice (some ⟨355243, 0, none⟩) 2 FULL), (.slice (some ⟨355407, 0, none⟩) 1 FULL)]), (.agg #[(.slice (some ⟨355255, 0, none⟩) 2 FULL), (.int .i64 0)])]
  pre := [(355243, axb4), (355407, axb5), (355255, axb6)]
  v := (.tuple #[(.slice (some ⟨358607, 0, none⟩) 60 FULL), (.int .i64 40), (.int .i64 0)])
  post := [(358607, axb7), (355243, axb4), (355407, axb5), (355255, axb6)]
  n2 := 358629
  frame := [357292, 357293, 357294, 357295, 357284, 357285, 357286, 357276, 357277, 357278, 357267, 357268, 357269, 357270, 353375, 357216, 355139, 355264, 355270, 354239, 352421, 352680, 353377, 353366, 353381, 353379, 354237, 357217, 357225, 357236, 355431, 355468, 357204, 353571, 354187, 354248, 355426, 355138, 353451, 353391, 353390, 353564, 353565, 346784, 353386, 353538, 353429, 353450, 5289, 5548, 6243, 6245, 6234, 6249, 6247, 39225, 39484, 40179, 40181, 40170, 40185, 40183]
def axk232_h : Hook := (fun _ _ _ _ => none)
/-- railplan/route.Cells -/
def axk233 : Cut where
  f := 320
  n := 359010
  args := [(.agg #[(.slice none 0 0), (.slice none 0 0), (.slice (some ⟨355243, 0, none⟩) 2 FULL), (.slice (some ⟨355407, 0, none⟩) 1 FULL)]), (.agg #[(.slice (some ⟨355255, 0, none⟩) 2 FULL), (.int .i64 0)])]
  pre := [(355243, axb4), (355407, axb5), (355255, axb6)]
  v := (.tuple #[(.slice (some ⟨360317, 0, none⟩) 60 FULL), (.int .i64 40), (.int .i64 0)])
  post := [(360317, axb7), (355243, axb4), (355407, axb5), (355255, axb6)]
  n2 := 360339
  frame := [359002, 359003, 359004, 359005, 358991, 358992, 358993, 358950, 358951, 358952, 358953, 358963, 357267, 357268, 357269, 357270, 353375, 357216, 355139, 355264, 355270, 354239, 352421, 352680, 353377, 353366, 353381, 353379, 354237, 357217, 357225, 357236, 355431, 355468, 357204, 353571, 354187, 354248, 355426, 355138, 353451, 353391, 353390, 353564, 353565, 346784, 353386, 353538, 353429, 353450, 5289, 5548, 6243, 6245, 6234, 6249, 6247, 39225, 39484, 40179, 40181, 40170, 40185, 40183]
def axk233_h : Hook := (fun _ _ _ _ => none)
/-- railplan/dynamics.checkRun -/
def axk234 : Cut where
  f := 345
  n := 360478
  args := [(.slice (some ⟨360317, 0, none⟩) 60 FULL), (.int .i64 40), (.agg #[(.string ⟨#[]⟩), (.int .i64 20), (.int .i64 30000), (.int .i64 500), (.int .i64 500)])]
  pre := [(360317, axb7)]
  v := (.int .i64 0)
  post := [(360317, axb7)]
  n2 := 362043
  frame := [360471, 360464, 355243, 355407, 355255, 358991, 358992, 358993, 360453, 358950, 358951, 358952, 358953, 358963, 357267, 357268, 357269, 357270, 353375, 357216, 355139, 355264, 355270, 354239, 352421, 352680, 353377, 353366, 353381, 353379, 354237, 357217, 357225, 357236, 355431, 355468, 357204, 353571, 354187, 354248, 355426, 355138, 353451, 353391, 353390, 353564, 353565, 346784, 353386, 353538, 353429, 353450, 5289, 5548, 6243, 6245, 6234, 6249, 6247, 39225, 39484, 40179, 40181, 40170, 40185, 40183]
def axk234_h : Hook := (fun _ _ _ _ => none)
/-- railplan/dynamics.squares -/
def axk235 : Cut where
  f := 346
  n := 362050
  args := [(.slice (some ⟨360317, 0, none⟩) 60 FULL), (.int .i64 40), (.agg #[(.string ⟨#[]⟩), (.int .i64 20), (.int .i64 30000), (.int .i64 500), (.int .i64 500)])]
  pre := [(360317, axb7)]
  v := (.slice (some ⟨362059, 0, none⟩) 21 21)
  post := [(362059, axb8), (360317, axb7)]
  n2 := 369381
  frame := [360471, 360464, 355243, 355407, 355255, 358991, 358992, 358993, 360453, 358950, 358951, 358952, 358953, 358963, 357267, 357268, 357269, 357270, 353375, 357216, 355139, 355264, 355270, 354239, 352421, 352680, 353377, 353366, 353381, 353379, 354237, 357217, 357225, 357236, 355431, 355468, 357204, 353571, 354187, 354248, 355426, 355138, 353451, 353391, 353390, 353564, 353565, 346784, 353386, 353538, 353429, 353450, 5289, 5548, 6243, 6245, 6234, 6249, 6247, 39225, 39484, 40179, 40181, 40170, 40185, 40183]
def axk235_h : Hook := (fun _ _ _ _ => none)
/-- railplan/dynamics.Speeds -/
def axk236 : Cut where
  f := 336
  n := 360471
  args := [(.slice (some ⟨360317, 0, none⟩) 60 FULL), (.int .i64 40), (.agg #[(.string ⟨#[]⟩), (.int .i64 20), (.int .i64 30000), (.int .i64 500), (.int .i64 500)])]
  pre := [(360317, axb7)]
  v := (.tuple #[(.slice (some ⟨362059, 0, none⟩) 21 21), (.int .i64 0)])
  post := [(362059, axb9), (360317, axb7)]
  n2 := 379484
  frame := [360464, 355243, 355407, 355255, 358991, 358992, 358993, 360453, 358950, 358951, 358952, 358953, 358963, 357267, 357268, 357269, 357270, 353375, 357216, 355139, 355264, 355270, 354239, 352421, 352680, 353377, 353366, 353381, 353379, 354237, 357217, 357225, 357236, 355431, 355468, 357204, 353571, 354187, 354248, 355426, 355138, 353451, 353391, 353390, 353564, 353565, 346784, 353386, 353538, 353429, 353450, 5289, 5548, 6243, 6245, 6234, 6249, 6247, 39225, 39484, 40179, 40181, 40170, 40185, 40183]
def axk236_h : Hook := (cutHook axk234 (cutHook axk235 (fun _ _ _ _ => none)))
/-- railplan/dynamics.Times -/
def axk237 : Cut where
  f := 331
  n := 360464
  args := [(.slice (some ⟨360317, 0, none⟩) 60 FULL), (.int .i64 40), (.agg #[(.string ⟨#[]⟩), (.int .i64 20), (.int .i64 30000), (.int .i64 500), (.int .i64 500)])]
  pre := [(360317, axb7)]
  v := (.tuple #[(.slice (some ⟨379493, 0, none⟩) 21 21), (.int .i64 0)])
  post := [(379493, axb10), (360317, axb7)]
  n2 := 380543
  frame := [355243, 355407, 355255, 358991, 358992, 358993, 360453, 358950, 358951, 358952, 358953, 358963, 357267, 357268, 357269, 357270, 353375, 357216, 355139, 355264, 355270, 354239, 352421, 352680, 353377, 353366, 353381, 353379, 354237, 357217, 357225, 357236, 355431, 355468, 357204, 353571, 354187, 354248, 355426, 355138, 353451, 353391, 353390, 353564, 353565, 346784, 353386, 353538, 353429, 353450, 5289, 5548, 6243, 6245, 6234, 6249, 6247, 39225, 39484, 40179, 40181, 40170, 40185, 40183]
def axk237_h : Hook := (cutHook axk236 (fun _ _ _ _ => none))
def axb213 : EBlk := .cells [(.slice none 0 0), (.slice none 0 0), (.slice (some ⟨352421, 0, none⟩) 2 FULL), (.slice (some ⟨352680, 0, none⟩) 1 FULL), (.slice (some ⟨353375, 0, none⟩) 1 1), (.slice (some ⟨353377, 0, none⟩) 1 1), (.slice (some ⟨353381, 0, none⟩) 1 1), (.slice (some ⟨355139, 0, none⟩) 1 FULL), (.map (some 354237)), (.slice none 0 0)] 205 1
def axb214 : EBlk := .cells [(.slice (some ⟨353366, 0, none⟩) 2 2), (.int .i64 0)] 107 1
def axb215 : EBlk := .cells [(.int .i64 0), (.slice (some ⟨353379, 0, none⟩) 1 1)] 114 1
def axb216 : EBlk := .cells [(.slice (some ⟨355264, 0, none⟩) 2 FULL), (.slice (some ⟨355270, 0, none⟩) 2 FULL), (.int .i64 1), (.slice none 0 0), (.slice none 0 0), (.slice (some ⟨355243, 0, none⟩) 2 FULL), (.slice (some ⟨355407, 0, none⟩) 1 FULL), (.slice (some ⟨355255, 0, none⟩) 2 FULL), (.int .i64 0)] 208 9
def axb217 : EBlk := .cells [(.pointer (some ⟨355139, 0, none⟩)), (.int .i64 0), (.int .i64 0), (.int .i64 100), (.int .i64 0), (.int .i64 0), (.int .i64 41)] 272 7
def axb218 : EBlk := .map [((.agg #[(.int .i64 0), (.int .i64 0), (.int .i64 0), (.int .i64 1)]), (.agg #[(.int .i64 0), (.int .i64 1), (.slice (some ⟨380717, 0, none⟩) 1 FULL), (.slice (some ⟨380729, 0, none⟩) 1 FULL), (.slice (some ⟨380742, 0, none⟩) 1 FULL), (.int .i64 0), (.int .i64 41)]), 0)] 1
/-- (*railplan/operate.model).duties -/
def axk238 : Cut where
  f := 100
  n := 355431
  args := [(.pointer (some ⟨354239, 0, none⟩)), (.agg #[(.int .i64 0), (.slice (some ⟨353379, 0, none⟩) 1 1)])]
  pre := [(354239, axb213), (352421, axb4), (352680, axb5), (353375, axb12), (353377, axb214), (353366, axb14), (353381, axb215), (353379, axb16), (355139, axb216), (355264, .cells [(.int .i64 0), (.int .i64 1)] 3 1), (355270, .cells [(.int .i64 (-1)), (.int .i64 (-1))] 3 1), (355243, axb4), (355407, axb5), (355255, axb6), (354237, .map [] 0)]
  v := (.tuple #[(.slice (some ⟨380769, 0, none⟩) 1 FULL), (.int .i64 0)])
  post := [(380769, axb217), (355139, axb216), (355264, .cells [(.int .i64 0), (.int .i64 1)] 3 1), (355270, .cells [(.int .i64 (-1)), (.int .i64 (-1))] 3 1), (355243, axb4), (355407, axb5), (355255, axb6), (354239, axb213), (352421, axb4), (352680, axb5), (353375, axb12), (353377, axb214), (353366, axb14), (353381, axb215), (353379, axb16), (354237, axb218), (380717, .cells [(.int .i64 (-16))] 3 1), (380729, .cells [(.int .i64 0)] 3 1), (380742, .cells [(.int .i64 45)] 3 1)]
  n2 := 380799
  frame := [353571, 354187, 354248, 355426, 355138, 353451, 353391, 353390, 353564, 353565, 346784, 353386, 353538, 353429, 353450, 5289, 5548, 6243, 6245, 6234, 6249, 6247, 39225, 39484, 40179, 40181, 40170, 40185, 40183]
def axk238_h : Hook := (cutHook axk231 (cutHook axk232 (cutHook axk233 (cutHook axk237 (fun _ _ _ _ => none)))))
def axb219 : EBlk := .cells [(.slice none 0 0), (.slice none 0 0), (.slice (some ⟨352421, 0, none⟩) 2 FULL), (.slice (some ⟨352680, 0, none⟩) 1 FULL), (.slice (some ⟨353375, 0, none⟩) 1 1), (.slice (some ⟨353377, 0, none⟩) 1 1), (.slice (some ⟨353381, 0, none⟩) 1 1), (.slice (some ⟨355139, 0, none⟩) 1 FULL), (.map (some 354237)), (.slice (some ⟨380813, 0, none⟩) 1 FULL)] 205 1
def axb220 : EBlk := .cells [(.slice (some ⟨380769, 0, none⟩) 1 FULL)] 210 1
/-- railplan/operate.newModel -/
def axk239 : Cut where
  f := 60
  n := 353571
  args := [(.agg #[(.slice none 0 0), (.slice none 0 0), (.slice (some ⟨352421, 0, none⟩) 2 FULL), (.slice (some ⟨352680, 0, none⟩) 1 FULL), (.slice (some ⟨353375, 0, none⟩) 1 1), (.slice (some ⟨353377, 0, none⟩) 1 1), (.slice (some ⟨353381, 0, none⟩) 1 1)])]
  pre := [(352421, axb4), (352680, axb5), (353375, axb12), (353377, axb214), (353366, axb14), (353381, axb215), (353379, axb16)]
  v := (.tuple #[(.pointer (some ⟨354239, 0, none⟩)), (.int .i64 0)])
  post := [(354239, axb219), (352421, axb4), (352680, axb5), (353375, axb12), (353377, axb214), (353366, axb14), (353381, axb215), (353379, axb16), (355139, axb216), (355264, .cells [(.int .i64 0), (.int .i64 1)] 3 1), (355270, .cells [(.int .i64 (-1)), (.int .i64 (-1))] 3 1), (355243, axb4), (355407, axb5), (355255, axb6), (354237, axb218), (380717, .cells [(.int .i64 (-16))] 3 1), (380729, .cells [(.int .i64 0)] 3 1), (380742, .cells [(.int .i64 45)] 3 1), (380813, axb220), (380769, axb217)]
  n2 := 380823
  frame := [353451, 353391, 353390, 353564, 353565, 346784, 353386, 353538, 353429, 353450, 5289, 5548, 6243, 6245, 6234, 6249, 6247, 39225, 39484, 40179, 40181, 40170, 40185, 40183]
def axk239_h : Hook := (cutHook axk238 (fun _ _ _ _ => none))
def axb221 : EBlk := .cells [(.pointer (some ⟨354239, 0, none⟩)), (.slice none 0 0), (.func (.func 64) #[] #[(.pointer (some ⟨353565, 0, none⟩))]), .nilFunc, (.int .i64 40), (.slice (some ⟨380938, 0, none⟩) 1 FULL), (.slice (some ⟨380870, 0, none⟩) 2 2), (.int .i64 0), (.slice none 0 0), (.bool false), (.slice (some ⟨381014, 0, none⟩) 2 FULL)] 151 1
def axb222 : EBlk := .cells [(.func (.func 41) #[] #[(.pointer (some ⟨353391, 0, none⟩))])] 100 1
def axb223 : EBlk := .map [((.agg #[(.int .i64 40), (.int .i64 5), (.int .i64 0), (.int .i64 0), (.int .i64 0), (.int .i64 0)]), (.bool true), 0), ((.agg #[(.int .i64 84), (.int .i64 5), (.int .i64 0), (.int .i64 0), (.int .i64 1), (.int .i64 0)]), (.bool true), 1)] 2
def axb224 : EBlk := .cells [(.pointer (some ⟨380946, 0, none⟩))] 215 1
def axb225 : EBlk := .cells [(.int .i64 0), (.slice (some ⟨380769, 0, none⟩) 1 FULL), (.int .i64 0), (.int .i64 (-1)), (.int .i64 0), (.int .i64 0), (.int .i64 0), (.int .i64 0), (.slice none 0 0), (.slice none 0 0), (.int .i64 (-1)), (.bool false)] 226 1
def axb226 : EBlk := .cells [(.slice (some ⟨380893, 0, none⟩) 1 1), (.slice (some ⟨380911, 0, none⟩) 1 1)] 23 1
def axb227 : EBlk := .cells [(.pointer (some ⟨354239, 0, none⟩)), (.slice none 0 0), (.func (.func 64) #[] #[(.pointer (some ⟨353565, 0, none⟩))]), .nilFunc, (.int .i64 40), (.slice (some ⟨380938, 0, none⟩) 1 FULL), (.slice (some ⟨380870, 0, none⟩) 2 2), (.int .i64 1), (.slice (some ⟨382008, 0, none⟩) 1 FULL), (.bool true), (.slice (some ⟨381014, 0, none⟩) 2 FULL)] 151 1
def axb228 : EBlk := .cells [(.int .i64 0), (.slice (some ⟨380769, 0, none⟩) 1 FULL), (.int .i64 1), (.int .i64 0), (.int .i64 0), (.int .i64 0), (.int .i64 100), (.int .i64 0), (.slice none 0 0), (.slice none 0 0), (.int .i64 (-1)), (.bool false)] 226 1
/-- (*railplan/operate.simulation).second -/
def axk240 : Cut where
  f := 107
  n := 381598
  args := [(.pointer (some ⟨380872, 0, none⟩))]
  pre := [(380872, axb221), (354239, axb219), (352421, axb4), (352680, axb5), (353375, axb12), (353377, axb214), (353366, axb14), (353381, axb215), (353379, axb16), (355139, axb216), (355264, .cells [(.int .i64 0), (.int .i64 1)] 3 1), (355270, .cells [(.int .i64 (-1)), (.int .i64 (-1))] 3 1), (355243, axb4), (355407, axb5), (355255, axb6), (354237, axb218), (380717, .cells [(.int .i64 (-16))] 3 1), (380729, .cells [(.int .i64 0)] 3 1), (380742, .cells [(.int .i64 45)] 3 1), (380813, axb220), (380769, axb217), (353565, axb222), (353391, .cells [(.map (some 353390))] 96 1), (353390, axb223), (380938, axb224), (380946, axb225), (380870, axb226), (380893, .cells [(.int .i64 0)] 3 1), (380911, .cells [(.int .i64 0)] 3 1), (381014, .cells [(.int .i64 40), (.int .i64 84)] 3 1)]
  v := (.tuple #[])
  post := [(380872, axb227), (354239, axb219), (352421, axb4), (352680, axb5), (353375, axb12), (353377, axb214), (353366, axb14), (353381, axb215), (353379, axb16), (355139, axb216), (355264, .cells [(.int .i64 0), (.int .i64 1)] 3 1), (355270, .cells [(.int .i64 (-1)), (.int .i64 (-1))] 3 1), (355243, axb4), (355407, axb5), (355255, axb6), (354237, axb218), (380717, .cells [(.int .i64 (-16))] 3 1), (380729, .cells [(.int .i64 0)] 3 1), (380742, .cells [(.int .i64 45)] 3 1), (380813, axb220), (380769, axb217), (353565, axb222), (353391, .cells [(.map (some 353390))] 96 1), (353390, axb223), (380938, axb224), (380946, axb228), (380870, axb226), (380893, .cells [(.int .i64 1)] 3 1), (380911, .cells [(.int .i64 0)] 3 1), (382008, axb37), (381014, .cells [(.int .i64 40), (.int .i64 84)] 3 1)]
  n2 := 382216
  frame := [353451, 353564, 346784, 353386, 353538, 353429, 353450, 5289, 5548, 6243, 6245, 6234, 6249, 6247, 39225, 39484, 40179, 40181, 40170, 40185, 40183]
def axk240_h : Hook := (fun _ _ _ _ => none)
def axb229 : EBlk := .cells [(.pointer (some ⟨354239, 0, none⟩)), (.slice none 0 0), (.func (.func 64) #[] #[(.pointer (some ⟨353565, 0, none⟩))]), .nilFunc, (.int .i64 84), (.slice (some ⟨380938, 0, none⟩) 1 FULL), (.slice (some ⟨380870, 0, none⟩) 2 2), (.int .i64 1), (.slice (some ⟨382008, 0, none⟩) 1 FULL), (.bool false), (.slice (some ⟨381014, 1, none⟩) 1 FULL)] 151 1
def axb230 : EBlk := .cells [(.pointer (some ⟨354239, 0, none⟩)), (.slice none 0 0), (.func (.func 64) #[] #[(.pointer (some ⟨353565, 0, none⟩))]), .nilFunc, (.int .i64 84), (.slice (some ⟨380938, 0, none⟩) 1 FULL), (.slice (some ⟨380870, 0, none⟩) 2 2), (.int .i64 2), (.slice (some ⟨383098, 0, none⟩) 2 FULL), (.bool true), (.slice (some ⟨381014, 1, none⟩) 1 FULL)] 151 1
def axb231 : EBlk := .cells [(.int .i64 0), (.slice (some ⟨380769, 0, none⟩) 1 FULL), (.int .i64 4), (.int .i64 1), (.int .i64 0), (.int .i64 0), (.int .i64 100), (.int .i64 2), (.slice (some ⟨383224, 0, none⟩) 1 FULL), (.slice (some ⟨383441, 0, none⟩) 1 FULL), (.int .i64 201), (.bool false)] 226 1
def axb232 : EBlk := .cells [(.pointer (some ⟨383222, 0, none⟩))] 308 1
def axb233 : EBlk := .cells [(.int .i64 0), (.int .i64 0), (.int .i64 1), (.int .i64 100), (.int .i64 0), (.int .i64 1), (.slice (some ⟨380717, 0, none⟩) 1 FULL), (.slice (some ⟨380729, 0, none⟩) 1 FULL), (.slice (some ⟨380742, 0, none⟩) 1 FULL), (.int .i64 0), (.int .i64 41), (.int .i64 141), (.bool false), (.bool false), (.slice (some ⟨383218, 0, none⟩) 1 1), (.slice (some ⟨383220, 0, none⟩) 1 1)] 311 1
/-- (*railplan/operate.simulation).second -/
def axk241 : Cut where
  f := 107
  n := 382680
  args := [(.pointer (some ⟨380872, 0, none⟩))]
  pre := [(380872, axb229), (354239, axb219), (352421, axb4), (352680, axb5), (353375, axb12), (353377, axb214), (353366, axb14), (353381, axb215), (353379, axb16), (355139, axb216), (355264, .cells [(.int .i64 0), (.int .i64 1)] 3 1), (355270, .cells [(.int .i64 (-1)), (.int .i64 (-1))] 3 1), (355243, axb4), (355407, axb5), (355255, axb6), (354237, axb218), (380717, .cells [(.int .i64 (-16))] 3 1), (380729, .cells [(.int .i64 0)] 3 1), (380742, .cells [(.int .i64 45)] 3 1), (380813, axb220), (380769, axb217), (353565, axb222), (353391, .cells [(.map (some 353390))] 96 1), (353390, axb223), (380938, axb224), (380946, axb228), (380870, axb226), (380893, .cells [(.int .i64 1)] 3 1), (380911, .cells [(.int .i64 0)] 3 1), (382008, axb37), (381014, .cells [(.int .i64 40), (.int .i64 84)] 3 1)]
  v := (.tuple #[])
  post := [(380872, axb230), (354239, axb219), (352421, axb4), (352680, axb5), (353375, axb12), (353377, axb214), (353366, axb14), (353381, axb215), (353379, axb16), (355139, axb216), (355264, .cells [(.int .i64 0), (.int .i64 1)] 3 1), (355270, .cells [(.int .i64 (-1)), (.int .i64 (-1))] 3 1), (355243, axb4), (355407, axb5), (355255, axb6), (354237, axb218), (380717, .cells [(.int .i64 (-16))] 3 1), (380729, .cells [(.int .i64 0)] 3 1), (380742, .cells [(.int .i64 45)] 3 1), (380813, axb220), (380769, axb217), (353565, axb222), (353391, .cells [(.map (some 353390))] 96 1), (353390, axb223), (380938, axb224), (380946, axb231), (383224, axb232), (383222, axb233), (383218, .cells [(.bool false)] 4 1), (383220, .cells [(.bool false)] 4 1), (383441, .cells [(.int .i64 1), (.int .i64 201)] 313 2), (380870, axb226), (380893, .cells [(.int .i64 1)] 3 1), (380911, .cells [(.int .i64 1)] 3 1), (383098, axb86), (381014, .cells [(.int .i64 40), (.int .i64 84)] 3 1)]
  n2 := 383555
  frame := [353451, 353564, 346784, 353386, 353538, 353429, 353450, 5289, 5548, 6243, 6245, 6234, 6249, 6247, 39225, 39484, 40179, 40181, 40170, 40185, 40183]
def axk241_h : Hook := (fun _ _ _ _ => none)
def axb234 : EBlk := .cells [(.pointer (some ⟨354239, 0, none⟩)), (.slice none 0 0), (.func (.func 64) #[] #[(.pointer (some ⟨353565, 0, none⟩))]), .nilFunc, (.int .i64 85), (.slice (some ⟨380938, 0, none⟩) 1 FULL), (.slice (some ⟨380870, 0, none⟩) 2 2), (.int .i64 2), (.slice (some ⟨383098, 0, none⟩) 2 FULL), (.bool false), (.slice (some ⟨381014, 1, none⟩) 1 FULL)] 151 1
/-- (*railplan/operate.simulation).second -/
def axk242 : Cut where
  f := 107
  n := 383608
  args := [(.pointer (some ⟨380872, 0, none⟩))]
  pre := [(380872, axb234), (354239, axb219), (352421, axb4), (352680, axb5), (353375, axb12), (353377, axb214), (353366, axb14), (353381, axb215), (353379, axb16), (355139, axb216), (355264, .cells [(.int .i64 0), (.int .i64 1)] 3 1), (355270, .cells [(.int .i64 (-1)), (.int .i64 (-1))] 3 1), (355243, axb4), (355407, axb5), (355255, axb6), (354237, axb218), (380717, .cells [(.int .i64 (-16))] 3 1), (380729, .cells [(.int .i64 0)] 3 1), (380742, .cells [(.int .i64 45)] 3 1), (380813, axb220), (380769, axb217), (353565, axb222), (353391, .cells [(.map (some 353390))] 96 1), (353390, axb223), (380938, axb224), (380946, axb231), (383224, axb232), (383222, axb233), (383218, .cells [(.bool false)] 4 1), (383220, .cells [(.bool false)] 4 1), (383441, .cells [(.int .i64 1), (.int .i64 201)] 313 2), (380870, axb226), (380893, .cells [(.int .i64 1)] 3 1), (380911, .cells [(.int .i64 1)] 3 1), (383098, axb86), (381014, .cells [(.int .i64 40), (.int .i64 84)] 3 1)]
  v := (.tuple #[])
  post := [(380872, axb234), (354239, axb219), (352421, axb4), (352680, axb5), (353375, axb12), (353377, axb214), (353366, axb14), (353381, axb215), (353379, axb16), (355139, axb216), (355264, .cells [(.int .i64 0), (.int .i64 1)] 3 1), (355270, .cells [(.int .i64 (-1)), (.int .i64 (-1))] 3 1), (355243, axb4), (355407, axb5), (355255, axb6), (354237, axb218), (380717, .cells [(.int .i64 (-16))] 3 1), (380729, .cells [(.int .i64 0)] 3 1), (380742, .cells [(.int .i64 45)] 3 1), (380813, axb220), (380769, axb217), (353565, axb222), (353391, .cells [(.map (some 353390))] 96 1), (353390, axb223), (380938, axb224), (380946, axb231), (383224, axb232), (383222, axb233), (383218, .cells [(.bool false)] 4 1), (383220, .cells [(.bool false)] 4 1), (383441, .cells [(.int .i64 1), (.int .i64 201)] 313 2), (380870, axb226), (380893, .cells [(.int .i64 1)] 3 1), (380911, .cells [(.int .i64 1)] 3 1), (383098, axb86), (381014, .cells [(.int .i64 40), (.int .i64 84)] 3 1)]
  n2 := 383994
  frame := [353451, 353564, 346784, 353386, 353538, 353429, 353450, 5289, 5548, 6243, 6245, 6234, 6249, 6247, 39225, 39484, 40179, 40181, 40170, 40185, 40183]
def axk242_h : Hook := (fun _ _ _ _ => none)
def axb235 : EBlk := .cells [(.pointer (some ⟨354239, 0, none⟩)), (.slice none 0 0), (.func (.func 64) #[] #[(.pointer (some ⟨353565, 0, none⟩))]), .nilFunc, (.int .i64 100), (.slice (some ⟨380938, 0, none⟩) 1 FULL), (.slice (some ⟨380870, 0, none⟩) 2 2), (.int .i64 2), (.slice (some ⟨383098, 0, none⟩) 2 FULL), (.bool false), (.slice (some ⟨381014, 1, some 0⟩) 0 FULL)] 151 1
def axb236 : EBlk := .cells [(.pointer (some ⟨354239, 0, none⟩)), (.slice none 0 0), (.func (.func 64) #[] #[(.pointer (some ⟨353565, 0, none⟩))]), .nilFunc, (.int .i64 100), (.slice (some ⟨380938, 0, none⟩) 1 FULL), (.slice (some ⟨380870, 0, none⟩) 2 2), (.int .i64 2), (.slice (some ⟨384794, 0, none⟩) 3 FULL), (.bool true), (.slice (some ⟨381014, 1, some 0⟩) 0 FULL)] 151 1
def axb237 : EBlk := .cells [(.int .i64 0), (.int .i64 0), (.int .i64 1), (.int .i64 100), (.int .i64 0), (.int .i64 1), (.slice (some ⟨380717, 0, none⟩) 1 FULL), (.slice (some ⟨380729, 0, none⟩) 1 FULL), (.slice (some ⟨380742, 0, none⟩) 1 FULL), (.int .i64 0), (.int .i64 41), (.int .i64 141), (.bool true), (.bool false), (.slice (some ⟨383218, 0, none⟩) 1 1), (.slice (some ⟨383220, 0, none⟩) 1 1)] 311 1
/-- (*railplan/operate.simulation).second -/
def axk243 : Cut where
  f := 107
  n := 384381
  args := [(.pointer (some ⟨380872, 0, none⟩))]
  pre := [(380872, axb235), (354239, axb219), (352421, axb4), (352680, axb5), (353375, axb12), (353377, axb214), (353366, axb14), (353381, axb215), (353379, axb16), (355139, axb216), (355264, .cells [(.int .i64 0), (.int .i64 1)] 3 1), (355270, .cells [(.int .i64 (-1)), (.int .i64 (-1))] 3 1), (355243, axb4), (355407, axb5), (355255, axb6), (354237, axb218), (380717, .cells [(.int .i64 (-16))] 3 1), (380729, .cells [(.int .i64 0)] 3 1), (380742, .cells [(.int .i64 45)] 3 1), (380813, axb220), (380769, axb217), (353565, axb222), (353391, .cells [(.map (some 353390))] 96 1), (353390, axb223), (380938, axb224), (380946, axb231), (383224, axb232), (383222, axb233), (383218, .cells [(.bool false)] 4 1), (383220, .cells [(.bool false)] 4 1), (383441, .cells [(.int .i64 1), (.int .i64 201)] 313 2), (380870, axb226), (380893, .cells [(.int .i64 1)] 3 1), (380911, .cells [(.int .i64 1)] 3 1), (383098, axb86), (381014, .cells [(.int .i64 40), (.int .i64 84)] 3 1)]
  v := (.tuple #[])
  post := [(380872, axb236), (354239, axb219), (352421, axb4), (352680, axb5), (353375, axb12), (353377, axb214), (353366, axb14), (353381, axb215), (353379, axb16), (355139, axb216), (355264, .cells [(.int .i64 0), (.int .i64 1)] 3 1), (355270, .cells [(.int .i64 (-1)), (.int .i64 (-1))] 3 1), (355243, axb4), (355407, axb5), (355255, axb6), (354237, axb218), (380717, .cells [(.int .i64 (-16))] 3 1), (380729, .cells [(.int .i64 0)] 3 1), (380742, .cells [(.int .i64 45)] 3 1), (380813, axb220), (380769, axb217), (353565, axb222), (353391, .cells [(.map (some 353390))] 96 1), (353390, axb223), (380938, axb224), (380946, axb231), (383224, axb232), (383222, axb237), (383218, .cells [(.bool false)] 4 1), (383220, .cells [(.bool false)] 4 1), (383441, .cells [(.int .i64 1), (.int .i64 201)] 313 2), (380870, axb226), (380893, .cells [(.int .i64 1)] 3 1), (380911, .cells [(.int .i64 1)] 3 1), (384794, axb105), (381014, .cells [(.int .i64 40), (.int .i64 84)] 3 1)]
  n2 := 384808
  frame := [353451, 353564, 346784, 353386, 353538, 353429, 353450, 5289, 5548, 6243, 6245, 6234, 6249, 6247, 39225, 39484, 40179, 40181, 40170, 40185, 40183]
def axk243_h : Hook := (fun _ _ _ _ => none)
def axb238 : EBlk := .cells [(.pointer (some ⟨354239, 0, none⟩)), (.slice none 0 0), (.func (.func 64) #[] #[(.pointer (some ⟨353565, 0, none⟩))]), .nilFunc, (.int .i64 101), (.slice (some ⟨380938, 0, none⟩) 1 FULL), (.slice (some ⟨380870, 0, none⟩) 2 2), (.int .i64 2), (.slice (some ⟨384794, 0, none⟩) 3 FULL), (.bool false), (.slice (some ⟨381014, 1, some 0⟩) 0 FULL)] 151 1
/-- (*railplan/operate.simulation).second -/
def axk244 : Cut where
  f := 107
  n := 384861
  args := [(.pointer (some ⟨380872, 0, none⟩))]
  pre := [(380872, axb238), (354239, axb219), (352421, axb4), (352680, axb5), (353375, axb12), (353377, axb214), (353366, axb14), (353381, axb215), (353379, axb16), (355139, axb216), (355264, .cells [(.int .i64 0), (.int .i64 1)] 3 1), (355270, .cells [(.int .i64 (-1)), (.int .i64 (-1))] 3 1), (355243, axb4), (355407, axb5), (355255, axb6), (354237, axb218), (380717, .cells [(.int .i64 (-16))] 3 1), (380729, .cells [(.int .i64 0)] 3 1), (380742, .cells [(.int .i64 45)] 3 1), (380813, axb220), (380769, axb217), (353565, axb222), (353391, .cells [(.map (some 353390))] 96 1), (353390, axb223), (380938, axb224), (380946, axb231), (383224, axb232), (383222, axb237), (383218, .cells [(.bool false)] 4 1), (383220, .cells [(.bool false)] 4 1), (383441, .cells [(.int .i64 1), (.int .i64 201)] 313 2), (380870, axb226), (380893, .cells [(.int .i64 1)] 3 1), (380911, .cells [(.int .i64 1)] 3 1), (384794, axb105), (381014, .cells [(.int .i64 40), (.int .i64 84)] 3 1)]
  v := (.tuple #[])
  post := [(380872, axb238), (354239, axb219), (352421, axb4), (352680, axb5), (353375, axb12), (353377, axb214), (353366, axb14), (353381, axb215), (353379, axb16), (355139, axb216), (355264, .cells [(.int .i64 0), (.int .i64 1)] 3 1), (355270, .cells [(.int .i64 (-1)), (.int .i64 (-1))] 3 1), (355243, axb4), (355407, axb5), (355255, axb6), (354237, axb218), (380717, .cells [(.int .i64 (-16))] 3 1), (380729, .cells [(.int .i64 0)] 3 1), (380742, .cells [(.int .i64 45)] 3 1), (380813, axb220), (380769, axb217), (353565, axb222), (353391, .cells [(.map (some 353390))] 96 1), (353390, axb223), (380938, axb224), (380946, axb231), (383224, axb232), (383222, axb237), (383218, .cells [(.bool false)] 4 1), (383220, .cells [(.bool false)] 4 1), (383441, .cells [(.int .i64 1), (.int .i64 201)] 313 2), (380870, axb226), (380893, .cells [(.int .i64 1)] 3 1), (380911, .cells [(.int .i64 1)] 3 1), (384794, axb105), (381014, .cells [(.int .i64 40), (.int .i64 84)] 3 1)]
  n2 := 385247
  frame := [353451, 353564, 346784, 353386, 353538, 353429, 353450, 5289, 5548, 6243, 6245, 6234, 6249, 6247, 39225, 39484, 40179, 40181, 40170, 40185, 40183]
def axk244_h : Hook := (fun _ _ _ _ => none)
def axb239 : EBlk := .cells [(.pointer (some ⟨354239, 0, none⟩)), (.slice none 0 0), (.func (.func 64) #[] #[(.pointer (some ⟨353565, 0, none⟩))]), .nilFunc, (.int .i64 141), (.slice (some ⟨380938, 0, none⟩) 1 FULL), (.slice (some ⟨380870, 0, none⟩) 2 2), (.int .i64 2), (.slice (some ⟨384794, 0, none⟩) 3 FULL), (.bool false), (.slice (some ⟨381014, 1, some 0⟩) 0 FULL)] 151 1
def axb240 : EBlk := .cells [(.pointer (some ⟨354239, 0, none⟩)), (.slice none 0 0), (.func (.func 64) #[] #[(.pointer (some ⟨353565, 0, none⟩))]), .nilFunc, (.int .i64 141), (.slice (some ⟨380938, 0, none⟩) 1 FULL), (.slice (some ⟨380870, 0, none⟩) 2 2), (.int .i64 2), (.slice (some ⟨385872, 0, none⟩) 4 FULL), (.bool true), (.slice (some ⟨381014, 1, some 0⟩) 0 FULL)] 151 1
def axb241 : EBlk := .cells [(.int .i64 0), (.int .i64 0), (.int .i64 1), (.int .i64 100), (.int .i64 0), (.int .i64 1), (.slice (some ⟨380717, 0, none⟩) 1 FULL), (.slice (some ⟨380729, 0, none⟩) 1 FULL), (.slice (some ⟨380742, 0, none⟩) 1 FULL), (.int .i64 0), (.int .i64 41), (.int .i64 141), (.bool true), (.bool true), (.slice (some ⟨383218, 0, none⟩) 1 1), (.slice (some ⟨383220, 0, none⟩) 1 1)] 311 1
/-- (*railplan/operate.simulation).second -/
def axk245 : Cut where
  f := 107
  n := 385602
  args := [(.pointer (some ⟨380872, 0, none⟩))]
  pre := [(380872, axb239), (354239, axb219), (352421, axb4), (352680, axb5), (353375, axb12), (353377, axb214), (353366, axb14), (353381, axb215), (353379, axb16), (355139, axb216), (355264, .cells [(.int .i64 0), (.int .i64 1)] 3 1), (355270, .cells [(.int .i64 (-1)), (.int .i64 (-1))] 3 1), (355243, axb4), (355407, axb5), (355255, axb6), (354237, axb218), (380717, .cells [(.int .i64 (-16))] 3 1), (380729, .cells [(.int .i64 0)] 3 1), (380742, .cells [(.int .i64 45)] 3 1), (380813, axb220), (380769, axb217), (353565, axb222), (353391, .cells [(.map (some 353390))] 96 1), (353390, axb223), (380938, axb224), (380946, axb231), (383224, axb232), (383222, axb237), (383218, .cells [(.bool false)] 4 1), (383220, .cells [(.bool false)] 4 1), (383441, .cells [(.int .i64 1), (.int .i64 201)] 313 2), (380870, axb226), (380893, .cells [(.int .i64 1)] 3 1), (380911, .cells [(.int .i64 1)] 3 1), (384794, axb105), (381014, .cells [(.int .i64 40), (.int .i64 84)] 3 1)]
  v := (.tuple #[])
  post := [(380872, axb240), (354239, axb219), (352421, axb4), (352680, axb5), (353375, axb12), (353377, axb214), (353366, axb14), (353381, axb215), (353379, axb16), (355139, axb216), (355264, .cells [(.int .i64 0), (.int .i64 1)] 3 1), (355270, .cells [(.int .i64 (-1)), (.int .i64 (-1))] 3 1), (355243, axb4), (355407, axb5), (355255, axb6), (354237, axb218), (380717, .cells [(.int .i64 (-16))] 3 1), (380729, .cells [(.int .i64 0)] 3 1), (380742, .cells [(.int .i64 45)] 3 1), (380813, axb220), (380769, axb217), (353565, axb222), (353391, .cells [(.map (some 353390))] 96 1), (353390, axb223), (380938, axb224), (380946, axb231), (383224, axb232), (383222, axb241), (383218, .cells [(.bool false)] 4 1), (383220, .cells [(.bool false)] 4 1), (383441, .cells [(.int .i64 1), (.int .i64 201)] 313 2), (380870, axb226), (380893, .cells [(.int .i64 1)] 3 1), (380911, .cells [(.int .i64 1)] 3 1), (385872, axb147), (381014, .cells [(.int .i64 40), (.int .i64 84)] 3 1)]
  n2 := 386029
  frame := [353451, 353564, 346784, 353386, 353538, 353429, 353450, 5289, 5548, 6243, 6245, 6234, 6249, 6247, 39225, 39484, 40179, 40181, 40170, 40185, 40183]
def axk245_h : Hook := (fun _ _ _ _ => none)
def axb242 : EBlk := .cells [(.pointer (some ⟨354239, 0, none⟩)), (.slice none 0 0), (.func (.func 64) #[] #[(.pointer (some ⟨353565, 0, none⟩))]), .nilFunc, (.int .i64 142), (.slice (some ⟨380938, 0, none⟩) 1 FULL), (.slice (some ⟨380870, 0, none⟩) 2 2), (.int .i64 2), (.slice (some ⟨385872, 0, none⟩) 4 FULL), (.bool false), (.slice (some ⟨381014, 1, some 0⟩) 0 FULL)] 151 1
/-- (*railplan/operate.simulation).second -/
def axk246 : Cut where
  f := 107
  n := 386082
  args := [(.pointer (some ⟨380872, 0, none⟩))]
  pre := [(380872, axb242), (354239, axb219), (352421, axb4), (352680, axb5), (353375, axb12), (353377, axb214), (353366, axb14), (353381, axb215), (353379, axb16), (355139, axb216), (355264, .cells [(.int .i64 0), (.int .i64 1)] 3 1), (355270, .cells [(.int .i64 (-1)), (.int .i64 (-1))] 3 1), (355243, axb4), (355407, axb5), (355255, axb6), (354237, axb218), (380717, .cells [(.int .i64 (-16))] 3 1), (380729, .cells [(.int .i64 0)] 3 1), (380742, .cells [(.int .i64 45)] 3 1), (380813, axb220), (380769, axb217), (353565, axb222), (353391, .cells [(.map (some 353390))] 96 1), (353390, axb223), (380938, axb224), (380946, axb231), (383224, axb232), (383222, axb241), (383218, .cells [(.bool false)] 4 1), (383220, .cells [(.bool false)] 4 1), (383441, .cells [(.int .i64 1), (.int .i64 201)] 313 2), (380870, axb226), (380893, .cells [(.int .i64 1)] 3 1), (380911, .cells [(.int .i64 1)] 3 1), (385872, axb147), (381014, .cells [(.int .i64 40), (.int .i64 84)] 3 1)]
  v := (.tuple #[])
  post := [(380872, axb242), (354239, axb219), (352421, axb4), (352680, axb5), (353375, axb12), (353377, axb214), (353366, axb14), (353381, axb215), (353379, axb16), (355139, axb216), (355264, .cells [(.int .i64 0), (.int .i64 1)] 3 1), (355270, .cells [(.int .i64 (-1)), (.int .i64 (-1))] 3 1), (355243, axb4), (355407, axb5), (355255, axb6), (354237, axb218), (380717, .cells [(.int .i64 (-16))] 3 1), (380729, .cells [(.int .i64 0)] 3 1), (380742, .cells [(.int .i64 45)] 3 1), (380813, axb220), (380769, axb217), (353565, axb222), (353391, .cells [(.map (some 353390))] 96 1), (353390, axb223), (380938, axb224), (380946, axb231), (383224, axb232), (383222, axb241), (383218, .cells [(.bool false)] 4 1), (383220, .cells [(.bool false)] 4 1), (383441, .cells [(.int .i64 1), (.int .i64 201)] 313 2), (380870, axb226), (380893, .cells [(.int .i64 1)] 3 1), (380911, .cells [(.int .i64 1)] 3 1), (385872, axb147), (381014, .cells [(.int .i64 40), (.int .i64 84)] 3 1)]
  n2 := 386468
  frame := [353451, 353564, 346784, 353386, 353538, 353429, 353450, 5289, 5548, 6243, 6245, 6234, 6249, 6247, 39225, 39484, 40179, 40181, 40170, 40185, 40183]
def axk246_h : Hook := (fun _ _ _ _ => none)
def axb243 : EBlk := .cells [(.pointer (some ⟨354239, 0, none⟩)), (.slice none 0 0), (.func (.func 64) #[] #[(.pointer (some ⟨353565, 0, none⟩))]), .nilFunc, (.int .i64 145), (.slice (some ⟨380938, 0, none⟩) 1 FULL), (.slice (some ⟨380870, 0, none⟩) 2 2), (.int .i64 2), (.slice (some ⟨385872, 0, none⟩) 4 FULL), (.bool false), (.slice (some ⟨381014, 1, some 0⟩) 0 FULL)] 151 1
def axb244 : EBlk := .cells [(.pointer (some ⟨354239, 0, none⟩)), (.slice none 0 0), (.func (.func 64) #[] #[(.pointer (some ⟨353565, 0, none⟩))]), .nilFunc, (.int .i64 145), (.slice (some ⟨380938, 0, none⟩) 1 FULL), (.slice (some ⟨380870, 0, none⟩) 2 2), (.int .i64 1), (.slice (some ⟨387023, 0, none⟩) 5 FULL), (.bool true), (.slice (some ⟨381014, 1, some 0⟩) 0 FULL)] 151 1
/-- (*railplan/operate.simulation).second -/
def axk247 : Cut where
  f := 107
  n := 386819
  args := [(.pointer (some ⟨380872, 0, none⟩))]
  pre := [(380872, axb243), (354239, axb219), (352421, axb4), (352680, axb5), (353375, axb12), (353377, axb214), (353366, axb14), (353381, axb215), (353379, axb16), (355139, axb216), (355264, .cells [(.int .i64 0), (.int .i64 1)] 3 1), (355270, .cells [(.int .i64 (-1)), (.int .i64 (-1))] 3 1), (355243, axb4), (355407, axb5), (355255, axb6), (354237, axb218), (380717, .cells [(.int .i64 (-16))] 3 1), (380729, .cells [(.int .i64 0)] 3 1), (380742, .cells [(.int .i64 45)] 3 1), (380813, axb220), (380769, axb217), (353565, axb222), (353391, .cells [(.map (some 353390))] 96 1), (353390, axb223), (380938, axb224), (380946, axb231), (383224, axb232), (383222, axb241), (383218, .cells [(.bool false)] 4 1), (383220, .cells [(.bool false)] 4 1), (383441, .cells [(.int .i64 1), (.int .i64 201)] 313 2), (380870, axb226), (380893, .cells [(.int .i64 1)] 3 1), (380911, .cells [(.int .i64 1)] 3 1), (385872, axb147), (381014, .cells [(.int .i64 40), (.int .i64 84)] 3 1)]
  v := (.tuple #[])
  post := [(380872, axb244), (354239, axb219), (352421, axb4), (352680, axb5), (353375, axb12), (353377, axb214), (353366, axb14), (353381, axb215), (353379, axb16), (355139, axb216), (355264, .cells [(.int .i64 0), (.int .i64 1)] 3 1), (355270, .cells [(.int .i64 (-1)), (.int .i64 (-1))] 3 1), (355243, axb4), (355407, axb5), (355255, axb6), (354237, axb218), (380717, .cells [(.int .i64 (-16))] 3 1), (380729, .cells [(.int .i64 0)] 3 1), (380742, .cells [(.int .i64 45)] 3 1), (380813, axb220), (380769, axb217), (353565, axb222), (353391, .cells [(.map (some 353390))] 96 1), (353390, axb223), (380938, axb224), (380946, axb231), (383224, axb232), (383222, axb241), (383218, .cells [(.bool true)] 4 1), (383220, .cells [(.bool false)] 4 1), (383441, .cells [(.int .i64 1), (.int .i64 201)] 313 2), (380870, axb226), (380893, .cells [(.int .i64 0)] 3 1), (380911, .cells [(.int .i64 1)] 3 1), (387023, axb153), (381014, .cells [(.int .i64 40), (.int .i64 84)] 3 1)]
  n2 := 387290
  frame := [353451, 353564, 346784, 353386, 353538, 353429, 353450, 5289, 5548, 6243, 6245, 6234, 6249, 6247, 39225, 39484, 40179, 40181, 40170, 40185, 40183]
def axk247_h : Hook := (fun _ _ _ _ => none)
def axb245 : EBlk := .cells [(.pointer (some ⟨354239, 0, none⟩)), (.slice none 0 0), (.func (.func 64) #[] #[(.pointer (some ⟨353565, 0, none⟩))]), .nilFunc, (.int .i64 146), (.slice (some ⟨380938, 0, none⟩) 1 FULL), (.slice (some ⟨380870, 0, none⟩) 2 2), (.int .i64 1), (.slice (some ⟨387023, 0, none⟩) 5 FULL), (.bool false), (.slice (some ⟨381014, 1, some 0⟩) 0 FULL)] 151 1
/-- (*railplan/operate.simulation).second -/
def axk248 : Cut where
  f := 107
  n := 387343
  args := [(.pointer (some ⟨380872, 0, none⟩))]
  pre := [(380872, axb245), (354239, axb219), (352421, axb4), (352680, axb5), (353375, axb12), (353377, axb214), (353366, axb14), (353381, axb215), (353379, axb16), (355139, axb216), (355264, .cells [(.int .i64 0), (.int .i64 1)] 3 1), (355270, .cells [(.int .i64 (-1)), (.int .i64 (-1))] 3 1), (355243, axb4), (355407, axb5), (355255, axb6), (354237, axb218), (380717, .cells [(.int .i64 (-16))] 3 1), (380729, .cells [(.int .i64 0)] 3 1), (380742, .cells [(.int .i64 45)] 3 1), (380813, axb220), (380769, axb217), (353565, axb222), (353391, .cells [(.map (some 353390))] 96 1), (353390, axb223), (380938, axb224), (380946, axb231), (383224, axb232), (383222, axb241), (383218, .cells [(.bool true)] 4 1), (383220, .cells [(.bool false)] 4 1), (383441, .cells [(.int .i64 1), (.int .i64 201)] 313 2), (380870, axb226), (380893, .cells [(.int .i64 0)] 3 1), (380911, .cells [(.int .i64 1)] 3 1), (387023, axb153), (381014, .cells [(.int .i64 40), (.int .i64 84)] 3 1)]
  v := (.tuple #[])
  post := [(380872, axb245), (354239, axb219), (352421, axb4), (352680, axb5), (353375, axb12), (353377, axb214), (353366, axb14), (353381, axb215), (353379, axb16), (355139, axb216), (355264, .cells [(.int .i64 0), (.int .i64 1)] 3 1), (355270, .cells [(.int .i64 (-1)), (.int .i64 (-1))] 3 1), (355243, axb4), (355407, axb5), (355255, axb6), (354237, axb218), (380717, .cells [(.int .i64 (-16))] 3 1), (380729, .cells [(.int .i64 0)] 3 1), (380742, .cells [(.int .i64 45)] 3 1), (380813, axb220), (380769, axb217), (353565, axb222), (353391, .cells [(.map (some 353390))] 96 1), (353390, axb223), (380938, axb224), (380946, axb231), (383224, axb232), (383222, axb241), (383218, .cells [(.bool true)] 4 1), (383220, .cells [(.bool false)] 4 1), (383441, .cells [(.int .i64 1), (.int .i64 201)] 313 2), (380870, axb226), (380893, .cells [(.int .i64 0)] 3 1), (380911, .cells [(.int .i64 1)] 3 1), (387023, axb153), (381014, .cells [(.int .i64 40), (.int .i64 84)] 3 1)]
  n2 := 387687
  frame := [353451, 353564, 346784, 353386, 353538, 353429, 353450, 5289, 5548, 6243, 6245, 6234, 6249, 6247, 39225, 39484, 40179, 40181, 40170, 40185, 40183]
def axk248_h : Hook := (fun _ _ _ _ => none)
def axb246 : EBlk := .cells [(.pointer (some ⟨354239, 0, none⟩)), (.slice none 0 0), (.func (.func 64) #[] #[(.pointer (some ⟨353565, 0, none⟩))]), .nilFunc, (.int .i64 201), (.slice (some ⟨380938, 0, none⟩) 1 FULL), (.slice (some ⟨380870, 0, none⟩) 2 2), (.int .i64 1), (.slice (some ⟨387023, 0, none⟩) 5 FULL), (.bool false), (.slice (some ⟨381014, 1, some 0⟩) 0 FULL)] 151 1
def axb247 : EBlk := .cells [(.pointer (some ⟨354239, 0, none⟩)), (.slice none 0 0), (.func (.func 64) #[] #[(.pointer (some ⟨353565, 0, none⟩))]), .nilFunc, (.int .i64 201), (.slice (some ⟨380938, 0, none⟩) 1 FULL), (.slice (some ⟨380870, 0, none⟩) 2 2), (.int .i64 0), (.slice (some ⟨388354, 0, none⟩) 7 FULL), (.bool true), (.slice (some ⟨381014, 1, some 0⟩) 0 FULL)] 151 1
def axb248 : EBlk := .cells [(.int .i64 0), (.slice (some ⟨380769, 0, none⟩) 1 FULL), (.int .i64 4), (.int .i64 2), (.int .i64 0), (.int .i64 0), (.int .i64 100), (.int .i64 2), (.slice (some ⟨383224, 0, none⟩) 1 FULL), (.slice (some ⟨383441, 0, none⟩) 0 FULL), (.int .i64 201), (.bool true)] 226 1
/-- (*railplan/operate.simulation).second -/
def axk249 : Cut where
  f := 107
  n := 387989
  args := [(.pointer (some ⟨380872, 0, none⟩))]
  pre := [(380872, axb246), (354239, axb219), (352421, axb4), (352680, axb5), (353375, axb12), (353377, axb214), (353366, axb14), (353381, axb215), (353379, axb16), (355139, axb216), (355264, .cells [(.int .i64 0), (.int .i64 1)] 3 1), (355270, .cells [(.int .i64 (-1)), (.int .i64 (-1))] 3 1), (355243, axb4), (355407, axb5), (355255, axb6), (354237, axb218), (380717, .cells [(.int .i64 (-16))] 3 1), (380729, .cells [(.int .i64 0)] 3 1), (380742, .cells [(.int .i64 45)] 3 1), (380813, axb220), (380769, axb217), (353565, axb222), (353391, .cells [(.map (some 353390))] 96 1), (353390, axb223), (380938, axb224), (380946, axb231), (383224, axb232), (383222, axb241), (383218, .cells [(.bool true)] 4 1), (383220, .cells [(.bool false)] 4 1), (383441, .cells [(.int .i64 1), (.int .i64 201)] 313 2), (380870, axb226), (380893, .cells [(.int .i64 0)] 3 1), (380911, .cells [(.int .i64 1)] 3 1), (387023, axb153), (381014, .cells [(.int .i64 40), (.int .i64 84)] 3 1)]
  v := (.tuple #[])
  post := [(380872, axb247), (354239, axb219), (352421, axb4), (352680, axb5), (353375, axb12), (353377, axb214), (353366, axb14), (353381, axb215), (353379, axb16), (355139, axb216), (355264, .cells [(.int .i64 0), (.int .i64 1)] 3 1), (355270, .cells [(.int .i64 (-1)), (.int .i64 (-1))] 3 1), (355243, axb4), (355407, axb5), (355255, axb6), (354237, axb218), (380717, .cells [(.int .i64 (-16))] 3 1), (380729, .cells [(.int .i64 0)] 3 1), (380742, .cells [(.int .i64 45)] 3 1), (380813, axb220), (380769, axb217), (353565, axb222), (353391, .cells [(.map (some 353390))] 96 1), (353390, axb223), (380938, axb224), (380946, axb248), (383224, axb232), (383222, axb241), (383218, .cells [(.bool true)] 4 1), (383220, .cells [(.bool false)] 4 1), (383441, .cells [(.int .i64 0), (.int .i64 0)] 313 2), (380870, axb226), (380893, .cells [(.int .i64 0)] 3 1), (380911, .cells [(.int .i64 0)] 3 1), (388354, axb211), (381014, .cells [(.int .i64 40), (.int .i64 84)] 3 1)]
  n2 := 388482
  frame := [353451, 353564, 346784, 353386, 353538, 353429, 353450, 5289, 5548, 6243, 6245, 6234, 6249, 6247, 39225, 39484, 40179, 40181, 40170, 40185, 40183]
def axk249_h : Hook := (fun _ _ _ _ => none)
def axb249 : EBlk := .cells [(.pointer (some ⟨354239, 0, none⟩)), (.slice none 0 0), (.func (.func 64) #[] #[(.pointer (some ⟨353565, 0, none⟩))]), .nilFunc, (.int .i64 0), (.slice (some ⟨380938, 0, none⟩) 1 FULL), (.slice (some ⟨380870, 0, none⟩) 2 2), (.int .i64 0), (.slice none 0 0), (.bool false), (.slice (some ⟨381014, 0, none⟩) 2 FULL)] 151 1
/-- (*railplan/operate.simulation).run -/
def axk250 : Cut where
  f := 65
  n := 381118
  args := [(.pointer (some ⟨380872, 0, none⟩)), (.int .i64 201)]
  pre := [(380872, axb249), (354239, axb219), (352421, axb4), (352680, axb5), (353375, axb12), (353377, axb214), (353366, axb14), (353381, axb215), (353379, axb16), (355139, axb216), (355264, .cells [(.int .i64 0), (.int .i64 1)] 3 1), (355270, .cells [(.int .i64 (-1)), (.int .i64 (-1))] 3 1), (355243, axb4), (355407, axb5), (355255, axb6), (354237, axb218), (380717, .cells [(.int .i64 (-16))] 3 1), (380729, .cells [(.int .i64 0)] 3 1), (380742, .cells [(.int .i64 45)] 3 1), (380813, axb220), (380769, axb217), (353565, axb222), (353391, .cells [(.map (some 353390))] 96 1), (353390, axb223), (380938, axb224), (380946, axb225), (380870, axb226), (380893, .cells [(.int .i64 0)] 3 1), (380911, .cells [(.int .i64 0)] 3 1), (381014, .cells [(.int .i64 40), (.int .i64 84)] 3 1)]
  v := (.tuple #[])
  post := [(380872, axb247), (354239, axb219), (352421, axb4), (352680, axb5), (353375, axb12), (353377, axb214), (353366, axb14), (353381, axb215), (353379, axb16), (355139, axb216), (355264, .cells [(.int .i64 0), (.int .i64 1)] 3 1), (355270, .cells [(.int .i64 (-1)), (.int .i64 (-1))] 3 1), (355243, axb4), (355407, axb5), (355255, axb6), (354237, axb218), (380717, .cells [(.int .i64 (-16))] 3 1), (380729, .cells [(.int .i64 0)] 3 1), (380742, .cells [(.int .i64 45)] 3 1), (380813, axb220), (380769, axb217), (353565, axb222), (353391, .cells [(.map (some 353390))] 96 1), (353390, axb223), (380938, axb224), (380946, axb248), (383224, axb232), (383222, axb241), (383218, .cells [(.bool true)] 4 1), (383220, .cells [(.bool false)] 4 1), (383441, .cells [(.int .i64 0), (.int .i64 0)] 313 2), (380870, axb226), (380893, .cells [(.int .i64 0)] 3 1), (380911, .cells [(.int .i64 0)] 3 1), (388354, axb211), (381014, .cells [(.int .i64 40), (.int .i64 84)] 3 1)]
  n2 := 388509
  frame := [353451, 353564, 346784, 353386, 353538, 353429, 353450, 5289, 5548, 6243, 6245, 6234, 6249, 6247, 39225, 39484, 40179, 40181, 40170, 40185, 40183]
def axk250_h : Hook := (cutHook axk240 (cutHook axk241 (cutHook axk242 (cutHook axk243 (cutHook axk244 (cutHook axk245 (cutHook axk246 (cutHook axk247 (cutHook axk248 (cutHook axk249 (fun _ _ _ _ => none)))))))))))
/-- slices.insertionSortCmpFunc[railplan/api.Record] -/
def axk251 : Cut where
  f := 268
  n := 388558
  args := [(.slice (some ⟨388354, 0, none⟩) 7 FULL), (.int .i64 0), (.int .i64 7), (.func (.func 109) #[] #[])]
  pre := [(388354, axb211)]
  v := (.tuple #[])
  post := [(388354, axb211)]
  n2 := 389944
  frame := [380872, 354239, 352421, 352680, 353375, 353377, 353366, 353381, 353379, 355139, 355264, 355270, 355243, 355407, 355255, 354237, 380717, 380729, 380742, 380813, 380769, 353565, 353391, 353390, 380938, 380946, 383224, 383222, 383218, 383220, 383441, 380870, 380893, 380911, 381014, 353451, 353564, 346784, 353386, 353538, 353429, 353450, 5289, 5548, 6243, 6245, 6234, 6249, 6247, 39225, 39484, 40179, 40181, 40170, 40185, 40183]
def axk251_h : Hook := (fun _ _ _ _ => none)
/-- railplan/railplanref1.one -/
def axk252 : Cut where
  f := 33
  n := 390658
  args := [(.string ⟨#[115, 101, 99, 116, 105, 111, 110, 32, 65, 32, 52, 48, 32, 51, 48, 48, 48, 48, 32, 48]⟩), (.int .i64 1)]
  pre := []
  v := (.tuple #[(.slice (some ⟨391998, 0, none⟩) 5 FULL), (.int .i64 0)])
  post := [(391998, axb0)]
  n2 := 392019
  frame := [390362, 390360, 346784, 5289, 5548, 6243, 6245, 6234, 6249, 6247, 39225, 39484, 40179, 40181, 40170, 40185, 40183, 352421, 352680, 353375, 353377, 353366, 353381, 353379]
def axk252_h : Hook := (fun _ _ _ _ => none)
/-- railplan/railplanref1.one -/
def axk253 : Cut where
  f := 33
  n := 392322
  args := [(.string ⟨#[115, 101, 99, 116, 105, 111, 110, 32, 66, 32, 50, 48, 32, 51, 48, 48, 48, 48, 32, 48]⟩), (.int .i64 2)]
  pre := []
  v := (.tuple #[(.slice (some ⟨393662, 0, none⟩) 5 FULL), (.int .i64 0)])
  post := [(393662, axb1)]
  n2 := 393683
  frame := [392032, 391998, 392031, 390362, 390360, 346784, 5289, 5548, 6243, 6245, 6234, 6249, 6247, 39225, 39484, 40179, 40181, 40170, 40185, 40183, 352421, 352680, 353375, 353377, 353366, 353381, 353379]
def axk253_h : Hook := (fun _ _ _ _ => none)
def axb250 : EBlk := .cells [(.slice (some ⟨391998, 0, none⟩) 5 FULL), (.slice (some ⟨393662, 0, none⟩) 5 FULL), (.slice (some ⟨394574, 0, none⟩) 5 FULL)] 42 1
/-- railplan/railplanref1.Lines -/
def axk254 : Cut where
  f := 17
  n := 390367
  args := [(.string ⟨#[115, 101, 99, 116, 105, 111, 110, 32, 65, 32, 52, 48, 32, 51, 48, 48, 48, 48, 32, 48, 10, 115, 101, 99, 116, 105, 111, 110, 32, 66, 32, 50, 48, 32, 51, 48, 48, 48, 48, 32, 48, 10, 108, 105, 110, 107, 32, 65, 32, 66, 32, 66, 32, 65, 10]⟩)]
  pre := []
  v := (.tuple #[(.slice (some ⟨394608, 0, none⟩) 3 FULL), (.int .i64 0), (.int .i64 0)])
  post := [(394608, axb250), (391998, axb0), (393662, axb1), (394574, axb3)]
  n2 := 394624
  frame := [390362, 390360, 346784, 5289, 5548, 6243, 6245, 6234, 6249, 6247, 39225, 39484, 40179, 40181, 40170, 40185, 40183, 352421, 352680, 353375, 353377, 353366, 353381, 353379]
def axk254_h : Hook := (cutHook axk252 (cutHook axk253 (fun _ _ _ _ => none)))
/-- railplan/railplanref1.Parse -/
def axk255 : Cut where
  f := 42
  n := 390362
  args := [(.string ⟨#[115, 101, 99, 116, 105, 111, 110, 32, 65, 32, 52, 48, 32, 51, 48, 48, 48, 48, 32, 48, 10, 115, 101, 99, 116, 105, 111, 110, 32, 66, 32, 50, 48, 32, 51, 48, 48, 48, 48, 32, 48, 10, 108, 105, 110, 107, 32, 65, 32, 66, 32, 66, 32, 65, 10]⟩)]
  pre := []
  v := (.tuple #[(.agg #[(.slice none 0 0), (.slice none 0 0), (.slice (some ⟨395647, 0, none⟩) 2 FULL), (.slice (some ⟨395906, 0, none⟩) 1 FULL)]), (.int .i64 0), (.int .i64 0)])
  post := [(395647, axb4), (395906, axb5)]
  n2 := 396582
  frame := [390360, 346784, 5289, 5548, 6243, 6245, 6234, 6249, 6247, 39225, 39484, 40179, 40181, 40170, 40185, 40183, 352421, 352680, 353375, 353377, 353366, 353381, 353379]
def axk255_h : Hook := (cutHook axk254 (fun _ _ _ _ => none))
/-- railplan/route.Cells -/
def axk256 : Cut where
  f := 320
  n := 398625
  args := [(.agg #[(.slice none 0 0), (.slice none 0 0), (.slice (some ⟨398294, 0, none⟩) 2 FULL), (.slice (some ⟨398458, 0, none⟩) 1 FULL)]), (.agg #[(.slice (some ⟨398306, 0, none⟩) 2 FULL), (.int .i64 0)])]
  pre := [(398294, axb4), (398458, axb5), (398306, axb6)]
  v := (.tuple #[(.slice (some ⟨399932, 0, none⟩) 60 FULL), (.int .i64 40), (.int .i64 0)])
  post := [(399932, axb7), (398294, axb4), (398458, axb5), (398306, axb6)]
  n2 := 399954
  frame := [398617, 398618, 398619, 398620, 398609, 398610, 398611, 398601, 398602, 398603, 396601, 398482, 396605, 397290, 395647, 395906, 396603, 396592, 396607, 398190, 398315, 398321, 397288, 398519, 396622, 397238, 397299, 398477, 398189, 396617, 346784, 396612, 5289, 5548, 6243, 6245, 6234, 6249, 6247, 39225, 39484, 40179, 40181, 40170, 40185, 40183, 352421, 352680, 353375, 353377, 353366, 353381, 353379]
def axk256_h : Hook := (fun _ _ _ _ => none)
/-- railplan/route.Cells -/
def axk257 : Cut where
  f := 320
  n := 400351
  args := [(.agg #[(.slice none 0 0), (.slice none 0 0), (.slice (some ⟨398294, 0, none⟩) 2 FULL), (.slice (some ⟨398458, 0, none⟩) 1 FULL)]), (.agg #[(.slice (some ⟨398306, 0, none⟩) 2 FULL), (.int .i64 0)])]
  pre := [(398294, axb4), (398458, axb5), (398306, axb6)]
  v := (.tuple #[(.slice (some ⟨401658, 0, none⟩) 60 FULL), (.int .i64 40), (.int .i64 0)])
  post := [(401658, axb7), (398294, axb4), (398458, axb5), (398306, axb6)]
  n2 := 401680
  frame := [400343, 400344, 400345, 400346, 400335, 400336, 400337, 400327, 400328, 400329, 400318, 400319, 400320, 400321, 396601, 400267, 398190, 398315, 398321, 397290, 395647, 395906, 396603, 396592, 396607, 396605, 397288, 400268, 400276, 400287, 398482, 398519, 400255, 396622, 397238, 397299, 398477, 398189, 396617, 346784, 396612, 5289, 5548, 6243, 6245, 6234, 6249, 6247, 39225, 39484, 40179, 40181, 40170, 40185, 40183, 352421, 352680, 353375, 353377, 353366, 353381, 353379]
def axk257_h : Hook := (fun _ _ _ _ => none)
/-- railplan/route.Cells -/
def axk258 : Cut where
  f := 320
  n := 402061
  args := [(.agg #[(.slice none 0 0), (.slice none 0 0), (.slice (some ⟨398294, 0, none⟩) 2 FULL), (.slice (some ⟨398458, 0, none⟩) 1 FULL)]), (.agg #[(.slice (some ⟨398306, 0, none⟩) 2 FULL), (.int .i64 0)])]
  pre := [(398294, axb4), (398458, axb5), (398306, axb6)]
  v := (.tuple #[(.slice (some ⟨403368, 0, none⟩) 60 FULL), (.int .i64 40), (.int .i64 0)])
  post := [(403368, axb7), (398294, axb4), (398458, axb5), (398306, axb6)]
  n2 := 403390
  frame := [402053, 402054, 402055, 402056, 402042, 402043, 402044, 402001, 402002, 402003, 402004, 402014, 400318, 400319, 400320, 400321, 396601, 400267, 398190, 398315, 398321, 397290, 395647, 395906, 396603, 396592, 396607, 396605, 397288, 400268, 400276, 400287, 398482, 398519, 400255, 396622, 397238, 397299, 398477, 398189, 396617, 346784, 396612, 5289, 5548, 6243, 6245, 6234, 6249, 6247, 39225, 39484, 40179, 40181, 40170, 40185, 40183, 352421, 352680, 353375, 353377, 353366, 353381, 353379]
def axk258_h : Hook := (fun _ _ _ _ => none)
/-- railplan/dynamics.checkRun -/
def axk259 : Cut where
  f := 345
  n := 403529
  args := [(.slice (some ⟨403368, 0, none⟩) 60 FULL), (.int .i64 40), (.agg #[(.string ⟨#[]⟩), (.int .i64 20), (.int .i64 30000), (.int .i64 500), (.int .i64 500)])]
  pre := [(403368, axb7)]
  v := (.int .i64 0)
  post := [(403368, axb7)]
  n2 := 405094
  frame := [403522, 403515, 398294, 398458, 398306, 402042, 402043, 402044, 403504, 402001, 402002, 402003, 402004, 402014, 400318, 400319, 400320, 400321, 396601, 400267, 398190, 398315, 398321, 397290, 395647, 395906, 396603, 396592, 396607, 396605, 397288, 400268, 400276, 400287, 398482, 398519, 400255, 396622, 397238, 397299, 398477, 398189, 396617, 346784, 396612, 5289, 5548, 6243, 6245, 6234, 6249, 6247, 39225, 39484, 40179, 40181, 40170, 40185, 40183, 352421, 352680, 353375, 353377, 353366, 353381, 353379]
def axk259_h : Hook := (fun _ _ _ _ => none)
/-- railplan/dynamics.squares -/
def axk260 : Cut where
  f := 346
  n := 405101
  args := [(.slice (some ⟨403368, 0, none⟩) 60 FULL), (.int .i64 40), (.agg #[(.string ⟨#[]⟩), (.int .i64 20), (.int .i64 30000), (.int .i64 500), (.int .i64 500)])]
  pre := [(403368, axb7)]
  v := (.slice (some ⟨405110, 0, none⟩) 21 21)
  post := [(405110, axb8), (403368, axb7)]
  n2 := 412432
  frame := [403522, 403515, 398294, 398458, 398306, 402042, 402043, 402044, 403504, 402001, 402002, 402003, 402004, 402014, 400318, 400319, 400320, 400321, 396601, 400267, 398190, 398315, 398321, 397290, 395647, 395906, 396603, 396592, 396607, 396605, 397288, 400268, 400276, 400287, 398482, 398519, 400255, 396622, 397238, 397299, 398477, 398189, 396617, 346784, 396612, 5289, 5548, 6243, 6245, 6234, 6249, 6247, 39225, 39484, 40179, 40181, 40170, 40185, 40183, 352421, 352680, 353375, 353377, 353366, 353381, 353379]
def axk260_h : Hook := (fun _ _ _ _ => none)
/-- railplan/dynamics.Speeds -/
def axk261 : Cut where
  f := 336
  n := 403522
  args := [(.slice (some ⟨403368, 0, none⟩) 60 FULL), (.int .i64 40), (.agg #[(.string ⟨#[]⟩), (.int .i64 20), (.int .i64 30000), (.int .i64 500), (.int .i64 500)])]
  pre := [(403368, axb7)]
  v := (.tuple #[(.slice (some ⟨405110, 0, none⟩) 21 21), (.int .i64 0)])
  post := [(405110, axb9), (403368, axb7)]
  n2 := 422535
  frame := [403515, 398294, 398458, 398306, 402042, 402043, 402044, 403504, 402001, 402002, 402003, 402004, 402014, 400318, 400319, 400320, 400321, 396601, 400267, 398190, 398315, 398321, 397290, 395647, 395906, 396603, 396592, 396607, 396605, 397288, 400268, 400276, 400287, 398482, 398519, 400255, 396622, 397238, 397299, 398477, 398189, 396617, 346784, 396612, 5289, 5548, 6243, 6245, 6234, 6249, 6247, 39225, 39484, 40179, 40181, 40170, 40185, 40183, 352421, 352680, 353375, 353377, 353366, 353381, 353379]
def axk261_h : Hook := (cutHook axk259 (cutHook axk260 (fun _ _ _ _ => none)))
/-- railplan/dynamics.Times -/
def axk262 : Cut where
  f := 331
  n := 403515
  args := [(.slice (some ⟨403368, 0, none⟩) 60 FULL), (.int .i64 40), (.agg #[(.string ⟨#[]⟩), (.int .i64 20), (.int .i64 30000), (.int .i64 500), (.int .i64 500)])]
  pre := [(403368, axb7)]
  v := (.tuple #[(.slice (some ⟨422544, 0, none⟩) 21 21), (.int .i64 0)])
  post := [(422544, axb10), (403368, axb7)]
  n2 := 423594
  frame := [398294, 398458, 398306, 402042, 402043, 402044, 403504, 402001, 402002, 402003, 402004, 402014, 400318, 400319, 400320, 400321, 396601, 400267, 398190, 398315, 398321, 397290, 395647, 395906, 396603, 396592, 396607, 396605, 397288, 400268, 400276, 400287, 398482, 398519, 400255, 396622, 397238, 397299, 398477, 398189, 396617, 346784, 396612, 5289, 5548, 6243, 6245, 6234, 6249, 6247, 39225, 39484, 40179, 40181, 40170, 40185, 40183, 352421, 352680, 353375, 353377, 353366, 353381, 353379]
def axk262_h : Hook := (cutHook axk261 (fun _ _ _ _ => none))
def axb251 : EBlk := .cells [(.slice none 0 0), (.slice none 0 0), (.slice (some ⟨395647, 0, none⟩) 2 FULL), (.slice (some ⟨395906, 0, none⟩) 1 FULL), (.slice (some ⟨396601, 0, none⟩) 1 1), (.slice (some ⟨396603, 0, none⟩) 1 1), (.slice (some ⟨396607, 0, none⟩) 1 1), (.slice (some ⟨398190, 0, none⟩) 1 FULL), (.map (some 397288)), (.slice none 0 0)] 205 1
def axb252 : EBlk := .cells [(.slice (some ⟨396592, 0, none⟩) 2 2), (.int .i64 0)] 107 1
def axb253 : EBlk := .cells [(.int .i64 0), (.slice (some ⟨396605, 0, none⟩) 1 1)] 114 1
def axb254 : EBlk := .cells [(.slice (some ⟨398315, 0, none⟩) 2 FULL), (.slice (some ⟨398321, 0, none⟩) 2 FULL), (.int .i64 1), (.slice none 0 0), (.slice none 0 0), (.slice (some ⟨398294, 0, none⟩) 2 FULL), (.slice (some ⟨398458, 0, none⟩) 1 FULL), (.slice (some ⟨398306, 0, none⟩) 2 FULL), (.int .i64 0)] 208 9
def axb255 : EBlk := .cells [(.pointer (some ⟨398190, 0, none⟩)), (.int .i64 0), (.int .i64 0), (.int .i64 100), (.int .i64 0), (.int .i64 0), (.int .i64 41)] 272 7
def axb256 : EBlk := .map [((.agg #[(.int .i64 0), (.int .i64 0), (.int .i64 0), (.int .i64 1)]), (.agg #[(.int .i64 0), (.int .i64 1), (.slice (some ⟨423768, 0, none⟩) 1 FULL), (.slice (some ⟨423780, 0, none⟩) 1 FULL), (.slice (some ⟨423793, 0, none⟩) 1 FULL), (.int .i64 0), (.int .i64 41)]), 0)] 1
/-- (*railplan/operate.model).duties -/
def axk263 : Cut where
  f := 100
  n := 398482
  args := [(.pointer (some ⟨397290, 0, none⟩)), (.agg #[(.int .i64 0), (.slice (some ⟨396605, 0, none⟩) 1 1)])]
  pre := [(397290, axb251), (395647, axb4), (395906, axb5), (396601, axb12), (396603, axb252), (396592, axb14), (396607, axb253), (396605, axb16), (398190, axb254), (398315, .cells [(.int .i64 0), (.int .i64 1)] 3 1), (398321, .cells [(.int .i64 (-1)), (.int .i64 (-1))] 3 1), (398294, axb4), (398458, axb5), (398306, axb6), (397288, .map [] 0)]
  v := (.tuple #[(.slice (some ⟨423820, 0, none⟩) 1 FULL), (.int .i64 0)])
  post := [(423820, axb255), (398190, axb254), (398315, .cells [(.int .i64 0), (.int .i64 1)] 3 1), (398321, .cells [(.int .i64 (-1)), (.int .i64 (-1))] 3 1), (398294, axb4), (398458, axb5), (398306, axb6), (397290, axb251), (395647, axb4), (395906, axb5), (396601, axb12), (396603, axb252), (396592, axb14), (396607, axb253), (396605, axb16), (397288, axb256), (423768, .cells [(.int .i64 (-16))] 3 1), (423780, .cells [(.int .i64 0)] 3 1), (423793, .cells [(.int .i64 45)] 3 1)]
  n2 := 423850
  frame := [396622, 397238, 397299, 398477, 398189, 396617, 346784, 396612, 5289, 5548, 6243, 6245, 6234, 6249, 6247, 39225, 39484, 40179, 40181, 40170, 40185, 40183, 352421, 352680, 353375, 353377, 353366, 353381, 353379]
def axk263_h : Hook := (cutHook axk256 (cutHook axk257 (cutHook axk258 (cutHook axk262 (fun _ _ _ _ => none)))))
def axb257 : EBlk := .cells [(.slice none 0 0), (.slice none 0 0), (.slice (some ⟨395647, 0, none⟩) 2 FULL), (.slice (some ⟨395906, 0, none⟩) 1 FULL), (.slice (some ⟨396601, 0, none⟩) 1 1), (.slice (some ⟨396603, 0, none⟩) 1 1), (.slice (some ⟨396607, 0, none⟩) 1 1), (.slice (some ⟨398190, 0, none⟩) 1 FULL), (.map (some 397288)), (.slice (some ⟨423864, 0, none⟩) 1 FULL)] 205 1
def axb258 : EBlk := .cells [(.slice (some ⟨423820, 0, none⟩) 1 FULL)] 210 1
/-- railplan/operate.newModel -/
def axk264 : Cut where
  f := 60
  n := 396622
  args := [(.agg #[(.slice none 0 0), (.slice none 0 0), (.slice (some ⟨395647, 0, none⟩) 2 FULL), (.slice (some ⟨395906, 0, none⟩) 1 FULL), (.slice (some ⟨396601, 0, none⟩) 1 1), (.slice (some ⟨396603, 0, none⟩) 1 1), (.slice (some ⟨396607, 0, none⟩) 1 1)])]
  pre := [(395647, axb4), (395906, axb5), (396601, axb12), (396603, axb252), (396592, axb14), (396607, axb253), (396605, axb16)]
  v := (.tuple #[(.pointer (some ⟨397290, 0, none⟩)), (.int .i64 0)])
  post := [(397290, axb257), (395647, axb4), (395906, axb5), (396601, axb12), (396603, axb252), (396592, axb14), (396607, axb253), (396605, axb16), (398190, axb254), (398315, .cells [(.int .i64 0), (.int .i64 1)] 3 1), (398321, .cells [(.int .i64 (-1)), (.int .i64 (-1))] 3 1), (398294, axb4), (398458, axb5), (398306, axb6), (397288, axb256), (423768, .cells [(.int .i64 (-16))] 3 1), (423780, .cells [(.int .i64 0)] 3 1), (423793, .cells [(.int .i64 45)] 3 1), (423864, axb258), (423820, axb255)]
  n2 := 423874
  frame := [396617, 346784, 396612, 5289, 5548, 6243, 6245, 6234, 6249, 6247, 39225, 39484, 40179, 40181, 40170, 40185, 40183, 352421, 352680, 353375, 353377, 353366, 353381, 353379]
def axk264_h : Hook := (cutHook axk263 (fun _ _ _ _ => none))
end Go.Proofs.YtnglahcjemgcaaaGreatDoor
