/- The pure law of the queue: Fifo. Conditions: none. -/
import Derived.Test.YtclblogdciebnaaPe
