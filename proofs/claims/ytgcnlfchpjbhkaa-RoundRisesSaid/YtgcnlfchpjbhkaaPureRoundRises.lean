/- The pure law RoundRises. Conditions: none. -/
import Derived.Test.YtgcnlfchpjbhkaaPf
